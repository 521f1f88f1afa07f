/- Part 1 of the proof: The law FnExactParseModule holds: ParseModule answers as the reference's does. No condition. -/
import Derived.Test.YtehpjofddjmbpaaQ4
section
namespace Go.Proofs.Ytehpjofddjmbpaa
open Go Go.Proofs.Ytehpjofddjmbpaa.Ab
set_option linter.unusedVariables false
set_option linter.unusedSimpArgs false
set_option maxHeartbeats 4000000
theorem all_stop {L : List UInt8} {p : UInt8 → Bool} {k : Nat} (h : k < L.length) (hp : p (L.getD k 0) = false) : L.all p = false := by
  rw [List.all_eq_false]
  have e : L.getD k 0 = L[k] := by simp [h]
  exact ⟨L[k], List.getElem_mem h, by rw [← e, hp]; decide⟩
theorem all_go {L : List UInt8} {p : UInt8 → Bool} {k : Nat} (h : k < L.length) (hp : p (L.getD k 0) = true) (ht : (L.take k).all p = true) : (L.take (k + 1)).all p = true := by
  rw [take0 h, List.all_append, ht, List.all_cons, hp]; rfl
theorem all_all {L : List UInt8} {p : UInt8 → Bool} {k : Nat} (h : L.length ≤ k) (ht : (L.take k).all p = true) : L.all p = true := by
  rwa [List.take_of_length_le h] at ht
def lu (n : Int) : SV := .one (.val (.lit (.int .u8 n)))
def isDig (n : Int) : Bool := decide (48 ≤ n ∧ n ≤ 57)
def markI : List Int := [33, 63, 42, 60, 62, 61, 47, 43, 45, 46, 95]
def isMk (n : Int) : Bool := decide (97 ≤ n ∧ n ≤ 122) || isDig n || decide (n ∈ markI)
theorem mark_at {k : Nat} (h : k < 11) : ((([33, 63, 42, 60, 62, 61, 47, 43, 45, 46, 95] : List UInt8).getD k 0).toNat : Int) = markI.getD k default := by
  have : ∀ k, k < 11 → ((([33, 63, 42, 60, 62, 61, 47, 43, 45, 46, 95] : List UInt8).getD k 0).toNat : Int) = markI.getD k default := by decide
  exact this k h
def isStB (n : Int) : Bool := decide (32 ≤ n ∧ n ≤ 126 ∧ n ≠ 34)
def isSym (s : ByteArray) : Bool := decide (1 ≤ (s.size : Int) ∧ (s.size : Int) ≤ 16) && !isDig (s.data.toList.getD 0 0).toNat && !(decide (((s.data.toList.getD 0 0).toNat : Int) = 45) && decide (1 < (s.size : Int)) && isDig (s.data.toList.getD 1 0).toNat) && s.data.toList.all fun b => isMk b.toNat
def isStr (s : ByteArray) : Bool := decide ((s.size : Int) ≤ 20) && s.data.toList.all fun b => isStB b.toNat
abbrev P_c_sDigit (n : Int) : Prop := CallOK Try.prog 269 [] [lu n] [] (.sv (lb (isDig n)))
theorem run_c_sDigit (n : Int) : aexec Try.prog (Option.getD (Func.body Try.f269) Code.skip) (entry [] [lu n] 9) [Orc.br [Orc.fin []] [Orc.fin []]] (finK Try.prog [ResultVar.tmp 2]
 [] (AV.sv (lb (isDig n)))) = ((decide (48 ≤ n) = true → ObsEq [] [] ∧ AV.sv (lb (decide (n ≤ 57))) = AV.sv (lb (isDig n))) ∧ (decide (48 ≤ n) = false → ObsEq [] [] ∧ AV.sv (lb
 false) = AV.sv (lb (isDig n)))) := by kernel_rfl
theorem c_sDigit (n : Int)  : P_c_sDigit n := by
  refine CallOK.ofRun wide (run_c_sDigit n) Try.call269 Try.func269 rfl rfl rfl ?_
  with_reducible repeat' (first | apply And.intro | exact flatI | exact flatS | exact rowLens | (intro; skip) | apply obsN | apply obsC | apply obA | apply obM | apply obB | apply svA | apply tupA | apply lcA | apply lcS | apply svC | apply liC | apply lbC | apply lsC | apply vIc | apply vBc | apply vSc | apply vLc | apply mapC)
  all_goals (try simp only [std] at *)
  all_goals (try (first | with_reducible rfl | omega | assumption | (refine (decide_eq_true ?_).symm; assumption) | (refine (decide_eq_false ?_).symm; assumption) | (refine rowGet ?_; (first | omega | (simp only [std]; omega) | grind)) | (refine getC ?_ rfl; (first | omega | (simp only [std]; omega) | grind)) | (refine fill_step ?_ ?_; (first | omega | (simp only [std]; omega) | grind); (first | rfl | exact (Row.eq _).trans rfl)) | (refine fill_init ?_; (first | rfl | exact (Row.eq _).trans rfl)) | (show (_ : St) = _; rfl) | grind [isDig, snocI, snocS, rowSnoc]))
abbrev P_c_iDigit (n : Int) : Prop := CallOK Try.prog 222 [] [lu n] [] (.sv (lb (isDig n)))
theorem run_c_iDigit (n : Int) : aexec Try.prog (Option.getD (Func.body Try.f222) Code.skip) (entry [] [lu n] 9) [Orc.br [Orc.fin []] [Orc.fin []]] (finK Try.prog [ResultVar.tmp 2]
 [] (AV.sv (lb (isDig n)))) = ((decide (48 ≤ n) = true → ObsEq [] [] ∧ AV.sv (lb (decide (n ≤ 57))) = AV.sv (lb (isDig n))) ∧ (decide (48 ≤ n) = false → ObsEq [] [] ∧ AV.sv (lb
 false) = AV.sv (lb (isDig n)))) := by kernel_rfl
theorem c_iDigit (n : Int)  : P_c_iDigit n := by
  refine CallOK.ofRun wide (run_c_iDigit n) Try.call222 Try.func222 rfl rfl rfl ?_
  with_reducible repeat' (first | apply And.intro | exact flatI | exact flatS | exact rowLens | (intro; skip) | apply obsN | apply obsC | apply obA | apply obM | apply obB | apply svA | apply tupA | apply lcA | apply lcS | apply svC | apply liC | apply lbC | apply lsC | apply vIc | apply vBc | apply vSc | apply vLc | apply mapC)
  all_goals (try simp only [std] at *)
  all_goals (try (first | with_reducible rfl | omega | assumption | (refine (decide_eq_true ?_).symm; assumption) | (refine (decide_eq_false ?_).symm; assumption) | (refine rowGet ?_; (first | omega | (simp only [std]; omega) | grind)) | (refine getC ?_ rfl; (first | omega | (simp only [std]; omega) | grind)) | (refine fill_step ?_ ?_; (first | omega | (simp only [std]; omega) | grind); (first | rfl | exact (Row.eq _).trans rfl)) | (refine fill_init ?_; (first | rfl | exact (Row.eq _).trans rfl)) | (show (_ : St) = _; rfl) | grind [isDig, snocI, snocS, rowSnoc]))
abbrev P_c_sMark (n : Int) : Prop := CallOK Try.prog 270 [] [lu n] [] (.sv (lb (isMk n)))
def Tc_sMarkLa (n : Int) (x0 : SV) : St := St.mk (regsOf 26 [(0, AV.sv (SV.one (AC.val (Cell.lit (Value.int IntKind.u8 n))))), (3, AV.sv (ls (ByteArray.mk #[(33 : UInt8), (63 :
 UInt8), (42 : UInt8), (60 : UInt8), (62 : UInt8), (61 : UInt8), (47 : UInt8), (43 : UInt8), (45 : UInt8), (46 : UInt8), (95 : UInt8)]))), (4, AV.sv x0)]) [] 0 
def Lc_sMarkLa (n : Int) (k : Nat) : St := Tc_sMarkLa n (li (↑k : Int)) 
def Ic_sMarkLa (n : Int) : Nat → St → Prop := Head (Lc_sMarkLa n) (fun k => k ≤ 11 ∧ ¬n ∈ List.take k markI) fun k => 11 - k 
def W0c_sMarkLa (n : Int) : St := St.mk (regsOf 26 []) [] 0 
def W1c_sMarkLa (n : Int) (x0 : SV) : St := St.mk (regsOf 26 [(2, AV.sv x0)]) [] 0 
def Yc_sMarkLa (n : Int) : List (Prop × AEx × St) := [(decide (n ∈ markI) = false, AEx.exit 0, W0c_sMarkLa n), (decide (n ∈ markI) = true, AEx.ret, W1c_sMarkLa n (lb true))]
theorem Hc_sMarkLa {n : Int} {k : Nat} {m : Nat} (h : (fun k => k ≤ 11 ∧ ¬n ∈ List.take k markI) k) (hm : (fun k => 11 - k) k = m) : Ic_sMarkLa n m (Lc_sMarkLa n k) := hm ▸ Head.mk
 h
theorem Ec_sMarkLa {n : Int} {k : Nat} {x0 : SV} (h0 : x0 = (li (↑k : Int))) : Tc_sMarkLa n x0 = Lc_sMarkLa n k := by
  rw [h0]
  rfl
theorem EW1c_sMarkLa {n : Int} {x0 y0 : SV} (h0 : x0 = y0) : W1c_sMarkLa n x0 = W1c_sMarkLa n y0 := by rw [h0]
theorem run_c_sMarkLa (n : Int) (k : Nat) : aexec Try.prog (loopAt Try.f270 0) (Lc_sMarkLa n k) [Orc.br [Orc.br [Orc.ghost (Ghost.sel [] [2]), Orc.out 1] [Orc.ghost (Ghost.sel []
 [0, 3, 4]), Orc.goto (11 - (k + 1)) (Lc_sMarkLa n (k + 1))]] [Orc.ghost (Ghost.sel [] []), Orc.out 0]] (loopK (Ic_sMarkLa n) (Yc_sMarkLa n) (11 - k)) = (11 ≤ 9223372036854775807 →
 (decide ((↑k : Int) < 11) = true → (0 ≤ (↑k : Int) ∧ Int.toNat (↑k : Int) < 11) ∧ (decide ((↑(UInt8.toNat (List.getD [(33 : UInt8), (63 : UInt8), (42 : UInt8), (60 : UInt8), (62 :
 UInt8), (61 : UInt8), (47 : UInt8), (43 : UInt8), (45 : UInt8), (46 : UInt8), (95 : UInt8)] (Int.toNat (↑k : Int)) (0 : UInt8))) : Int) = n) = true → decide (n ∈ markI) = true ∧
 W1c_sMarkLa n (lb true) = W1c_sMarkLa n (lb true)) ∧ (decide ((↑(UInt8.toNat (List.getD [(33 : UInt8), (63 : UInt8), (42 : UInt8), (60 : UInt8), (62 : UInt8), (61 : UInt8), (47 :
 UInt8), (43 : UInt8), (45 : UInt8), (46 : UInt8), (95 : UInt8)] (Int.toNat (↑k : Int)) (0 : UInt8))) : Int) = n) = false → rng IntKind.i64 ((↑k : Int) + 1) ∧ 11 - (k + 1) < 11 - k
 ∧ Tc_sMarkLa n (li ((↑k : Int) + 1)) = Lc_sMarkLa n (k + 1) ∧ Ic_sMarkLa n (11 - (k + 1)) (Lc_sMarkLa n (k + 1)))) ∧ (decide ((↑k : Int) < 11) = false → decide (n ∈ markI) = false
 ∧ W0c_sMarkLa n = W0c_sMarkLa n)) := by kernel_rfl
theorem Sc_sMarkLa (n : Int)  : LoopSem Try.prog (loopAt Try.f270 0) (Ic_sMarkLa n) (Yc_sMarkLa n) := by
  refine LoopSem.ofHead wide fun k h => ⟨_, _, run_c_sMarkLa n k, ?_⟩
  have g := @mark_at k
  have e : markI.length = 11 := rfl
  have e2 : markI.take 11 = markI := rfl
  with_reducible repeat' (first | apply And.intro | exact flatI | exact flatS | exact rowLens | (intro; skip) | apply obsN | apply obsC | apply obA | apply obM | apply obB | apply svA | apply tupA | apply lcA | apply lcS | apply svC | apply liC | apply lbC | apply lsC | apply vIc | apply vBc | apply vSc | apply vLc | apply mapC | apply Hc_sMarkLa | apply Ec_sMarkLa | apply EW1c_sMarkLa | apply c_sDigit)
  all_goals (try simp only [std] at *)
  all_goals (try (first | with_reducible apply c_sDigit | (simp only [← List.map_append]; first | with_reducible apply c_sDigit)))
  all_goals (try (first | with_reducible rfl | omega | assumption | (refine (decide_eq_true ?_).symm; assumption) | (refine (decide_eq_false ?_).symm; assumption) | (refine rowGet ?_; (first | omega | (simp only [std]; omega) | grind)) | (refine getC ?_ rfl; (first | omega | (simp only [std]; omega) | grind)) | (refine fill_step ?_ ?_; (first | omega | (simp only [std]; omega) | grind); (first | rfl | exact (Row.eq _).trans rfl)) | (refine fill_init ?_; (first | rfl | exact (Row.eq _).trans rfl)) | (show (_ : St) = _; rfl) | grind [take_get, getD_mem', snocI, snocS, rowSnoc]))
theorem run_c_sMark (n : Int) : aexec Try.prog (Option.getD (Func.body Try.f270) Code.skip) (entry [] [lu n] 26) [Orc.br [Orc.br [Orc.bool true, Orc.fin []] [Orc.call [Mode.rd] []
 (AV.sv (lb (isDig n))), Orc.br [Orc.fin []] [Orc.ghost (Ghost.sel [] [0, 3, 4]), Orc.loop 11 (Lc_sMarkLa n 0) (Ic_sMarkLa n) [(decide (n ∈ markI) = false, AEx.exit 0, W0c_sMarkLa
 n, [Orc.fin []]), (decide (n ∈ markI) = true, AEx.ret, W1c_sMarkLa n (lb true), [Orc.fin []])]]]] [Orc.bool false, Orc.call [Mode.rd] [] (AV.sv (lb (isDig n))), Orc.br [Orc.fin
 []] [Orc.ghost (Ghost.sel [] [0, 3, 4]), Orc.loop 11 (Lc_sMarkLa n 0) (Ic_sMarkLa n) [(decide (n ∈ markI) = false, AEx.exit 0, W0c_sMarkLa n, [Orc.fin []]), (decide (n ∈ markI) =
 true, AEx.ret, W1c_sMarkLa n (lb true), [Orc.fin []])]]]] (finK Try.prog [ResultVar.tmp 2] [] (AV.sv (lb (isMk n)))) = ((decide (97 ≤ n) = true → (decide (n ≤ 122) = true → true =
 true ∧ ObsEq [] [] ∧ AV.sv (lb true) = AV.sv (lb (isMk n))) ∧ (decide (n ≤ 122) = false → P_c_sDigit n ∧ (isDig n = true → ObsEq [] [] ∧ AV.sv (lb true) = AV.sv (lb (isMk n))) ∧
 (isDig n = false → Tc_sMarkLa n (li 0) = Lc_sMarkLa n 0 ∧ Ic_sMarkLa n 11 (Lc_sMarkLa n 0) ∧ LoopSem Try.prog (loopAt Try.f270 0) (Ic_sMarkLa n) (Yc_sMarkLa n) ∧ (decide (n ∈
 markI) = false → ObsEq [] [] ∧ AV.sv (lb false) = AV.sv (lb (isMk n))) ∧ (decide (n ∈ markI) = true → ObsEq [] [] ∧ AV.sv (lb true) = AV.sv (lb (isMk n))) ∧ True))) ∧ (decide (97
 ≤ n) = false → false = false ∧ P_c_sDigit n ∧ (isDig n = true → ObsEq [] [] ∧ AV.sv (lb true) = AV.sv (lb (isMk n))) ∧ (isDig n = false → Tc_sMarkLa n (li 0) = Lc_sMarkLa n 0 ∧
 Ic_sMarkLa n 11 (Lc_sMarkLa n 0) ∧ LoopSem Try.prog (loopAt Try.f270 0) (Ic_sMarkLa n) (Yc_sMarkLa n) ∧ (decide (n ∈ markI) = false → ObsEq [] [] ∧ AV.sv (lb false) = AV.sv (lb
 (isMk n))) ∧ (decide (n ∈ markI) = true → ObsEq [] [] ∧ AV.sv (lb true) = AV.sv (lb (isMk n))) ∧ True))) := by kernel_rfl
theorem c_sMark (n : Int)  : P_c_sMark n := by
  refine CallOK.ofRun wide (run_c_sMark n) Try.call270 Try.func270 rfl rfl rfl ?_
  with_reducible repeat' (first | apply And.intro | exact flatI | exact flatS | exact rowLens | (intro; skip) | apply obsN | apply obsC | apply obA | apply obM | apply obB | apply svA | apply tupA | apply lcA | apply lcS | apply svC | apply liC | apply lbC | apply lsC | apply vIc | apply vBc | apply vSc | apply vLc | apply mapC | apply Hc_sMarkLa | apply Ec_sMarkLa | apply Sc_sMarkLa | apply EW1c_sMarkLa | apply c_sDigit)
  all_goals (try simp only [std] at *)
  all_goals (try (first | with_reducible apply c_sDigit | (simp only [← List.map_append]; first | with_reducible apply c_sDigit)))
  all_goals (try (first | with_reducible rfl | omega | assumption | (refine (decide_eq_true ?_).symm; assumption) | (refine (decide_eq_false ?_).symm; assumption) | (refine rowGet ?_; (first | omega | (simp only [std]; omega) | grind)) | (refine getC ?_ rfl; (first | omega | (simp only [std]; omega) | grind)) | (refine fill_step ?_ ?_; (first | omega | (simp only [std]; omega) | grind); (first | rfl | exact (Row.eq _).trans rfl)) | (refine fill_init ?_; (first | rfl | exact (Row.eq _).trans rfl)) | (show (_ : St) = _; rfl) | grind [isMk, snocI, snocS, rowSnoc]))
abbrev P_c_iMark (n : Int) : Prop := CallOK Try.prog 223 [] [lu n] [] (.sv (lb (isMk n)))
abbrev a1_c_iMark (n : Int) := (decide (n = 33) = false → (decide (n = 63) = true → true = true ∧ ObsEq [] [] ∧ AV.sv (lb true) = AV.sv (lb (isMk n))) ∧ (decide (n = 63) = false →
 (decide (n = 42) = true → true = true ∧ ObsEq [] [] ∧ AV.sv (lb true) = AV.sv (lb (isMk n))) ∧ (decide (n = 42) = false → (decide (n = 60) = true → true = true ∧ ObsEq [] [] ∧
 AV.sv (lb true) = AV.sv (lb (isMk n))) ∧ (decide (n = 60) = false → (decide (n = 62) = true → true = true ∧ ObsEq [] [] ∧ AV.sv (lb true) = AV.sv (lb (isMk n))) ∧ (decide (n = 62)
 = false → (decide (n = 61) = true → true = true ∧ ObsEq [] [] ∧ AV.sv (lb true) = AV.sv (lb (isMk n))) ∧ (decide (n = 61) = false → (decide (n = 47) = true → true = true ∧ ObsEq
 [] [] ∧ AV.sv (lb true) = AV.sv (lb (isMk n))) ∧ (decide (n = 47) = false → (decide (n = 43) = true → true = true ∧ ObsEq [] [] ∧ AV.sv (lb true) = AV.sv (lb (isMk n))) ∧ (decide
 (n = 43) = false → (decide (n = 45) = true → true = true ∧ ObsEq [] [] ∧ AV.sv (lb true) = AV.sv (lb (isMk n))) ∧ (decide (n = 45) = false → (decide (n = 46) = true → true = true
 ∧ ObsEq [] [] ∧ AV.sv (lb true) = AV.sv (lb (isMk n))) ∧ (decide (n = 46) = false → (decide (n = 95) = true → ObsEq [] [] ∧ AV.sv (lb true) = AV.sv (lb (isMk n))) ∧ (decide (n =
 95) = false → ObsEq [] [] ∧ AV.sv (lb false) = AV.sv (lb (isMk n)))))))))))))
abbrev a2_c_iMark  := [Orc.br [Orc.bool true, Orc.fin []] [Orc.br [Orc.bool true, Orc.fin []] [Orc.br [Orc.bool true, Orc.fin []] [Orc.br [Orc.bool true, Orc.fin []] [Orc.br
 [Orc.bool true, Orc.fin []] [Orc.br [Orc.bool true, Orc.fin []] [Orc.br [Orc.bool true, Orc.fin []] [Orc.br [Orc.bool true, Orc.fin []] [Orc.br [Orc.bool true, Orc.fin []] [Orc.br
 [Orc.fin []] [Orc.fin []]]]]]]]]]]]
abbrev a3_c_iMark (n : Int) := (decide (48 ≤ n) = true → (decide (n ≤ 57) = true → ObsEq [] [] ∧ AV.sv (lb true) = AV.sv (lb (isMk n))) ∧ (decide (n ≤ 57) = false → (decide (n =
 33) = true → true = true ∧ ObsEq [] [] ∧ AV.sv (lb true) = AV.sv (lb (isMk n))) ∧ (a1_c_iMark n)))
theorem run_c_iMark (n : Int) : aexec Try.prog (Option.getD (Func.body Try.f223) Code.skip) (entry [] [lu n] 30) [Orc.br [Orc.br [Orc.bool true, Orc.fin []] [Orc.br [Orc.br
 [Orc.fin []] [Orc.br [Orc.bool true, Orc.fin []] a2_c_iMark]] [Orc.bool false, Orc.br [Orc.bool true, Orc.fin []] a2_c_iMark]]] [Orc.bool false, Orc.br [Orc.br [Orc.fin []]
 [Orc.br [Orc.bool true, Orc.fin []] a2_c_iMark]] [Orc.bool false, Orc.br [Orc.bool true, Orc.fin []] a2_c_iMark]]] (finK Try.prog [ResultVar.tmp 2] [] (AV.sv (lb (isMk n)))) =
 ((decide (97 ≤ n) = true → (decide (n ≤ 122) = true → true = true ∧ ObsEq [] [] ∧ AV.sv (lb true) = AV.sv (lb (isMk n))) ∧ (decide (n ≤ 122) = false → (a3_c_iMark n) ∧ (decide (48
 ≤ n) = false → false = false ∧ (decide (n = 33) = true → true = true ∧ ObsEq [] [] ∧ AV.sv (lb true) = AV.sv (lb (isMk n))) ∧ (a1_c_iMark n)))) ∧ (decide (97 ≤ n) = false → false
 = false ∧ (a3_c_iMark n) ∧ (decide (48 ≤ n) = false → false = false ∧ (decide (n = 33) = true → true = true ∧ ObsEq [] [] ∧ AV.sv (lb true) = AV.sv (lb (isMk n))) ∧ (a1_c_iMark
 n)))) := by kernel_rfl
theorem c_iMark (n : Int)  : P_c_iMark n := by
  refine CallOK.ofRun wide (run_c_iMark n) Try.call223 Try.func223 rfl rfl rfl ?_
  try delta a1_c_iMark a2_c_iMark a3_c_iMark
  with_reducible repeat' (first | apply And.intro | exact flatI | exact flatS | exact rowLens | (intro; skip) | apply obsN | apply obsC | apply obA | apply obM | apply obB | apply svA | apply tupA | apply lcA | apply lcS | apply svC | apply liC | apply lbC | apply lsC | apply vIc | apply vBc | apply vSc | apply vLc | apply mapC)
  all_goals (try simp only [std] at *)
  all_goals (try (first | with_reducible rfl | omega | assumption | (refine (decide_eq_true ?_).symm; assumption) | (refine (decide_eq_false ?_).symm; assumption) | (refine rowGet ?_; (first | omega | (simp only [std]; omega) | grind)) | (refine getC ?_ rfl; (first | omega | (simp only [std]; omega) | grind)) | (refine fill_step ?_ ?_; (first | omega | (simp only [std]; omega) | grind); (first | rfl | exact (Row.eq _).trans rfl)) | (refine fill_init ?_; (first | rfl | exact (Row.eq _).trans rfl)) | (show (_ : St) = _; rfl) | grind [snocI, snocS, rowSnoc]))
  all_goals (symm; simp only [isMk, isDig, markI, List.mem_cons, List.not_mem_nil, Bool.or_eq_true, Bool.or_eq_false_iff, decide_eq_true_eq, decide_eq_false_iff_not, or_false]; omega)
abbrev P_c_l1In (x : Int) (a : Int) (b : Int) : Prop := CallOK Try.prog 195 [] [li x, li a, li b] [] (.sv (lb (decide (a ≤ x ∧ x ≤ b))))
theorem run_c_l1In (x : Int) (a : Int) (b : Int) : aexec Try.prog (Option.getD (Func.body Try.f195) Code.skip) (entry [] [li x, li a, li b] 15) [Orc.br [Orc.fin []] [Orc.fin []]]
 (finK Try.prog [ResultVar.tmp 6] [] (AV.sv (lb (decide (a ≤ x ∧ x ≤ b))))) = ((decide (a ≤ x) = true → ObsEq [] [] ∧ AV.sv (lb (decide (x ≤ b))) = AV.sv (lb (decide (a ≤ x ∧ x ≤
 b)))) ∧ (decide (a ≤ x) = false → ObsEq [] [] ∧ AV.sv (lb false) = AV.sv (lb (decide (a ≤ x ∧ x ≤ b))))) := by kernel_rfl
theorem c_l1In (x a b : Int)  : P_c_l1In x a b := by
  refine CallOK.ofRun wide (run_c_l1In x a b) Try.call195 Try.func195 rfl rfl rfl ?_
  with_reducible repeat' (first | apply And.intro | exact flatI | exact flatS | exact rowLens | (intro; skip) | apply obsN | apply obsC | apply obA | apply obM | apply obB | apply svA | apply tupA | apply lcA | apply lcS | apply svC | apply liC | apply lbC | apply lsC | apply vIc | apply vBc | apply vSc | apply vLc | apply mapC)
  all_goals (try simp only [std] at *)
  all_goals (try (first | with_reducible rfl | omega | assumption | (refine (decide_eq_true ?_).symm; assumption) | (refine (decide_eq_false ?_).symm; assumption) | (refine rowGet ?_; (first | omega | (simp only [std]; omega) | grind)) | (refine getC ?_ rfl; (first | omega | (simp only [std]; omega) | grind)) | (refine fill_step ?_ ?_; (first | omega | (simp only [std]; omega) | grind); (first | rfl | exact (Row.eq _).trans rfl)) | (refine fill_init ?_; (first | rfl | exact (Row.eq _).trans rfl)) | (show (_ : St) = _; rfl) | grind [snocI, snocS, rowSnoc]))
abbrev P_c_sIsSymbol (s : ByteArray) : Prop := CallOK Try.prog 216 [] [ls s] [] (.sv (lb (isSym s)))
def Tc_sIsSymbolLa (s : ByteArray) (x0 : SV) : St := St.mk (regsOf 39 [(0, AV.sv (ls s)), (3, AV.sv x0)]) [] 0 
def Lc_sIsSymbolLa (s : ByteArray) (k : Nat) : St := Tc_sIsSymbolLa s (li (↑k : Int)) 
def Ic_sIsSymbolLa (s : ByteArray) : Nat → St → Prop := Head (Lc_sIsSymbolLa s) (fun k => k ≤ ByteArray.size s ∧ ByteArray.size s ≤ 16 ∧ (List.all (List.take k (Array.toList
 (ByteArray.data s))) fun b => isMk (↑(UInt8.toNat b) : Int)) = true) fun k => ByteArray.size s - k 
def W0c_sIsSymbolLa (s : ByteArray) : St := St.mk (regsOf 39 []) [] 0 
def W1c_sIsSymbolLa (s : ByteArray) (x0 : SV) : St := St.mk (regsOf 39 [(2, AV.sv x0)]) [] 0 
def Yc_sIsSymbolLa (s : ByteArray) : List (Prop × AEx × St) := [((List.all (Array.toList (ByteArray.data s)) fun b => isMk (↑(UInt8.toNat b) : Int)) = true, AEx.exit 0,
 W0c_sIsSymbolLa s), ((List.all (Array.toList (ByteArray.data s)) fun b => isMk (↑(UInt8.toNat b) : Int)) = false, AEx.ret, W1c_sIsSymbolLa s (lb false))]
theorem Hc_sIsSymbolLa {s : ByteArray} {k : Nat} {m : Nat} (h : (fun k => k ≤ ByteArray.size s ∧ ByteArray.size s ≤ 16 ∧ (List.all (List.take k (Array.toList (ByteArray.data s)))
 fun b => isMk (↑(UInt8.toNat b) : Int)) = true) k) (hm : (fun k => ByteArray.size s - k) k = m) : Ic_sIsSymbolLa s m (Lc_sIsSymbolLa s k) := hm ▸ Head.mk h
theorem Ec_sIsSymbolLa {s : ByteArray} {k : Nat} {x0 : SV} (h0 : x0 = (li (↑k : Int))) : Tc_sIsSymbolLa s x0 = Lc_sIsSymbolLa s k := by
  rw [h0]
  rfl
theorem EW1c_sIsSymbolLa {s : ByteArray} {x0 y0 : SV} (h0 : x0 = y0) : W1c_sIsSymbolLa s x0 = W1c_sIsSymbolLa s y0 := by rw [h0]
theorem run_c_sIsSymbolLa (s : ByteArray) (k : Nat) : aexec Try.prog (loopAt Try.f216 0) (Lc_sIsSymbolLa s k) [Orc.br [Orc.call [Mode.rd] [] (AV.sv (lb (isMk (↑(UInt8.toNat
 (List.getD (Array.toList (ByteArray.data s)) (Int.toNat (↑k : Int)) (0 : UInt8))) : Int)))), Orc.br [Orc.ghost (Ghost.sel [] [2]), Orc.out 1] [Orc.ghost (Ghost.sel [] [0, 3]),
 Orc.goto (ByteArray.size s - (k + 1)) (Lc_sIsSymbolLa s (k + 1))]] [Orc.ghost (Ghost.sel [] []), Orc.out 0]] (loopK (Ic_sIsSymbolLa s) (Yc_sIsSymbolLa s) (ByteArray.size s - k)) =
 (List.length (Array.toList (ByteArray.data s)) ≤ 9223372036854775807 → (decide ((↑k : Int) < (↑(List.length (Array.toList (ByteArray.data s))) : Int)) = true → (0 ≤ (↑k : Int) ∧
 Int.toNat (↑k : Int) < List.length (Array.toList (ByteArray.data s))) ∧ P_c_sMark (↑(UInt8.toNat (List.getD (Array.toList (ByteArray.data s)) (Int.toNat (↑k : Int)) (0 : UInt8)))
 : Int) ∧ ((!isMk (↑(UInt8.toNat (List.getD (Array.toList (ByteArray.data s)) (Int.toNat (↑k : Int)) (0 : UInt8))) : Int)) = true → (List.all (Array.toList (ByteArray.data s)) fun
 b => isMk (↑(UInt8.toNat b) : Int)) = false ∧ W1c_sIsSymbolLa s (lb false) = W1c_sIsSymbolLa s (lb false)) ∧ ((!isMk (↑(UInt8.toNat (List.getD (Array.toList (ByteArray.data s))
 (Int.toNat (↑k : Int)) (0 : UInt8))) : Int)) = false → rng IntKind.i64 ((↑k : Int) + 1) ∧ ByteArray.size s - (k + 1) < ByteArray.size s - k ∧ Tc_sIsSymbolLa s (li ((↑k : Int) +
 1)) = Lc_sIsSymbolLa s (k + 1) ∧ Ic_sIsSymbolLa s (ByteArray.size s - (k + 1)) (Lc_sIsSymbolLa s (k + 1)))) ∧ (decide ((↑k : Int) < (↑(List.length (Array.toList (ByteArray.data
 s))) : Int)) = false → (List.all (Array.toList (ByteArray.data s)) fun b => isMk (↑(UInt8.toNat b) : Int)) = true ∧ W0c_sIsSymbolLa s = W0c_sIsSymbolLa s)) := by kernel_rfl
theorem Sc_sIsSymbolLa (s : ByteArray)  : LoopSem Try.prog (loopAt Try.f216 0) (Ic_sIsSymbolLa s) (Yc_sIsSymbolLa s) := by
  refine LoopSem.ofHead wide fun k h => ⟨_, _, run_c_sIsSymbolLa s k, ?_⟩
  have g1 := @all_stop s.data.toList (fun b => isMk b.toNat) k
  have g2 := @all_go s.data.toList (fun b => isMk b.toNat) k
  have g3 := @all_all s.data.toList (fun b => isMk b.toNat) k
  with_reducible repeat' (first | apply And.intro | exact flatI | exact flatS | exact rowLens | (intro; skip) | apply obsN | apply obsC | apply obA | apply obM | apply obB | apply svA | apply tupA | apply lcA | apply lcS | apply svC | apply liC | apply lbC | apply lsC | apply vIc | apply vBc | apply vSc | apply vLc | apply mapC | apply Hc_sIsSymbolLa | apply Ec_sIsSymbolLa | apply EW1c_sIsSymbolLa | apply c_l1In | apply c_sDigit | apply c_sMark)
  all_goals (try simp only [std] at *)
  all_goals (try (first | with_reducible apply c_l1In | with_reducible apply c_sDigit | with_reducible apply c_sMark | (simp only [← List.map_append]; first | with_reducible apply c_l1In | with_reducible apply c_sDigit | with_reducible apply c_sMark)))
  all_goals (try (first | with_reducible rfl | omega | assumption | (refine (decide_eq_true ?_).symm; assumption) | (refine (decide_eq_false ?_).symm; assumption) | (refine rowGet ?_; (first | omega | (simp only [std]; omega) | grind)) | (refine getC ?_ rfl; (first | omega | (simp only [std]; omega) | grind)) | (refine fill_step ?_ ?_; (first | omega | (simp only [std]; omega) | grind); (first | rfl | exact (Row.eq _).trans rfl)) | (refine fill_init ?_; (first | rfl | exact (Row.eq _).trans rfl)) | (show (_ : St) = _; rfl) | grind [snocI, snocS, rowSnoc]))
abbrev a1_c_sIsSymbol (s : ByteArray) := (↑(UInt8.toNat (List.getD (Array.toList (ByteArray.data s)) 0 (0 : UInt8))) : Int)
abbrev a2_c_sIsSymbol (s : ByteArray) := (↑(List.length (Array.toList (ByteArray.data s))) : Int)
abbrev a3_c_sIsSymbol (s : ByteArray) := (↑(UInt8.toNat (List.getD (Array.toList (ByteArray.data s)) 1 (0 : UInt8))) : Int)
theorem run_c_sIsSymbol (s : ByteArray) : aexec Try.prog (Option.getD (Func.body Try.f216) Code.skip) (entry [] [ls s] 39) [Orc.call [Mode.rd, Mode.rd, Mode.rd] [] (AV.sv (lb
 (decide (1 ≤ (a2_c_sIsSymbol s) ∧ (a2_c_sIsSymbol s) ≤ 16)))), Orc.br [Orc.bool true, Orc.bool true, Orc.fin []] [Orc.call [Mode.rd] [] (AV.sv (lb (isDig (a1_c_sIsSymbol s)))),
 Orc.br [Orc.bool true, Orc.fin []] [Orc.br [Orc.br [Orc.call [Mode.rd] [] (AV.sv (lb (isDig (a3_c_sIsSymbol s)))), Orc.br [Orc.fin []] [Orc.ghost (Ghost.sel [] [0, 3]), Orc.loop
 (ByteArray.size s - 0) (Lc_sIsSymbolLa s 0) (Ic_sIsSymbolLa s) [((List.all (Array.toList (ByteArray.data s)) fun b => isMk (↑(UInt8.toNat b) : Int)) = true, AEx.exit 0,
 W0c_sIsSymbolLa s, [Orc.fin []]), ((List.all (Array.toList (ByteArray.data s)) fun b => isMk (↑(UInt8.toNat b) : Int)) = false, AEx.ret, W1c_sIsSymbolLa s (lb false), [Orc.fin
 []])]]] [Orc.bool false, Orc.ghost (Ghost.sel [] [0, 3]), Orc.loop (ByteArray.size s - 0) (Lc_sIsSymbolLa s 0) (Ic_sIsSymbolLa s) [((List.all (Array.toList (ByteArray.data s)) fun
 b => isMk (↑(UInt8.toNat b) : Int)) = true, AEx.exit 0, W0c_sIsSymbolLa s, [Orc.fin []]), ((List.all (Array.toList (ByteArray.data s)) fun b => isMk (↑(UInt8.toNat b) : Int)) =
 false, AEx.ret, W1c_sIsSymbolLa s (lb false), [Orc.fin []])]]] [Orc.bool false, Orc.bool false, Orc.ghost (Ghost.sel [] [0, 3]), Orc.loop (ByteArray.size s - 0) (Lc_sIsSymbolLa s
 0) (Ic_sIsSymbolLa s) [((List.all (Array.toList (ByteArray.data s)) fun b => isMk (↑(UInt8.toNat b) : Int)) = true, AEx.exit 0, W0c_sIsSymbolLa s, [Orc.fin []]), ((List.all
 (Array.toList (ByteArray.data s)) fun b => isMk (↑(UInt8.toNat b) : Int)) = false, AEx.ret, W1c_sIsSymbolLa s (lb false), [Orc.fin []])]]]]] (finK Try.prog [ResultVar.tmp 2] []
 (AV.sv (lb (isSym s)))) = (List.length (Array.toList (ByteArray.data s)) ≤ 9223372036854775807 → P_c_l1In (a2_c_sIsSymbol s) 1 16 ∧ ((!decide (1 ≤ (a2_c_sIsSymbol s) ∧
 (a2_c_sIsSymbol s) ≤ 16)) = true → true = true ∧ true = true ∧ ObsEq [] [] ∧ AV.sv (lb false) = AV.sv (lb (isSym s))) ∧ ((!decide (1 ≤ (a2_c_sIsSymbol s) ∧ (a2_c_sIsSymbol s) ≤
 16)) = false → ((0 : Int) ≤ 0 ∧ 0 < List.length (Array.toList (ByteArray.data s))) ∧ P_c_sDigit (a1_c_sIsSymbol s) ∧ (isDig (a1_c_sIsSymbol s) = true → true = true ∧ ObsEq [] [] ∧
 AV.sv (lb false) = AV.sv (lb (isSym s))) ∧ (isDig (a1_c_sIsSymbol s) = false → ((0 : Int) ≤ 0 ∧ 0 < List.length (Array.toList (ByteArray.data s))) ∧ (decide ((a1_c_sIsSymbol s) =
 45) = true → List.length (Array.toList (ByteArray.data s)) ≤ 9223372036854775807 → (decide (1 < (a2_c_sIsSymbol s)) = true → ((0 : Int) ≤ 1 ∧ 1 < List.length (Array.toList
 (ByteArray.data s))) ∧ P_c_sDigit (a3_c_sIsSymbol s) ∧ (isDig (a3_c_sIsSymbol s) = true → ObsEq [] [] ∧ AV.sv (lb false) = AV.sv (lb (isSym s))) ∧ (isDig (a3_c_sIsSymbol s) =
 false → Tc_sIsSymbolLa s (li 0) = Lc_sIsSymbolLa s 0 ∧ Ic_sIsSymbolLa s (ByteArray.size s - 0) (Lc_sIsSymbolLa s 0) ∧ LoopSem Try.prog (loopAt Try.f216 0) (Ic_sIsSymbolLa s)
 (Yc_sIsSymbolLa s) ∧ ((List.all (Array.toList (ByteArray.data s)) fun b => isMk (↑(UInt8.toNat b) : Int)) = true → ObsEq [] [] ∧ AV.sv (lb true) = AV.sv (lb (isSym s))) ∧
 ((List.all (Array.toList (ByteArray.data s)) fun b => isMk (↑(UInt8.toNat b) : Int)) = false → ObsEq [] [] ∧ AV.sv (lb false) = AV.sv (lb (isSym s))) ∧ True)) ∧ (decide (1 <
 (a2_c_sIsSymbol s)) = false → false = false ∧ Tc_sIsSymbolLa s (li 0) = Lc_sIsSymbolLa s 0 ∧ Ic_sIsSymbolLa s (ByteArray.size s - 0) (Lc_sIsSymbolLa s 0) ∧ LoopSem Try.prog
 (loopAt Try.f216 0) (Ic_sIsSymbolLa s) (Yc_sIsSymbolLa s) ∧ ((List.all (Array.toList (ByteArray.data s)) fun b => isMk (↑(UInt8.toNat b) : Int)) = true → ObsEq [] [] ∧ AV.sv (lb
 true) = AV.sv (lb (isSym s))) ∧ ((List.all (Array.toList (ByteArray.data s)) fun b => isMk (↑(UInt8.toNat b) : Int)) = false → ObsEq [] [] ∧ AV.sv (lb false) = AV.sv (lb (isSym
 s))) ∧ True)) ∧ (decide ((a1_c_sIsSymbol s) = 45) = false → false = false ∧ false = false ∧ Tc_sIsSymbolLa s (li 0) = Lc_sIsSymbolLa s 0 ∧ Ic_sIsSymbolLa s (ByteArray.size s - 0)
 (Lc_sIsSymbolLa s 0) ∧ LoopSem Try.prog (loopAt Try.f216 0) (Ic_sIsSymbolLa s) (Yc_sIsSymbolLa s) ∧ ((List.all (Array.toList (ByteArray.data s)) fun b => isMk (↑(UInt8.toNat b) :
 Int)) = true → ObsEq [] [] ∧ AV.sv (lb true) = AV.sv (lb (isSym s))) ∧ ((List.all (Array.toList (ByteArray.data s)) fun b => isMk (↑(UInt8.toNat b) : Int)) = false → ObsEq [] [] ∧
 AV.sv (lb false) = AV.sv (lb (isSym s))) ∧ True)))) := by kernel_rfl
theorem c_sIsSymbol (s : ByteArray)  : P_c_sIsSymbol s := by
  refine CallOK.ofRun wide (run_c_sIsSymbol s) Try.call216 Try.func216 rfl rfl rfl ?_
  try delta a1_c_sIsSymbol a2_c_sIsSymbol a3_c_sIsSymbol
  with_reducible repeat' (first | apply And.intro | exact flatI | exact flatS | exact rowLens | (intro; skip) | apply obsN | apply obsC | apply obA | apply obM | apply obB | apply svA | apply tupA | apply lcA | apply lcS | apply svC | apply liC | apply lbC | apply lsC | apply vIc | apply vBc | apply vSc | apply vLc | apply mapC | apply Hc_sIsSymbolLa | apply Ec_sIsSymbolLa | apply Sc_sIsSymbolLa | apply EW1c_sIsSymbolLa | apply c_l1In | apply c_sDigit | apply c_sMark)
  all_goals (try simp only [std] at *)
  all_goals (try (first | with_reducible apply c_l1In | with_reducible apply c_sDigit | with_reducible apply c_sMark | (simp only [← List.map_append]; first | with_reducible apply c_l1In | with_reducible apply c_sDigit | with_reducible apply c_sMark)))
  all_goals (try (first | with_reducible rfl | omega | assumption | (refine (decide_eq_true ?_).symm; assumption) | (refine (decide_eq_false ?_).symm; assumption) | (refine rowGet ?_; (first | omega | (simp only [std]; omega) | grind)) | (refine getC ?_ rfl; (first | omega | (simp only [std]; omega) | grind)) | (refine fill_step ?_ ?_; (first | omega | (simp only [std]; omega) | grind); (first | rfl | exact (Row.eq _).trans rfl)) | (refine fill_init ?_; (first | rfl | exact (Row.eq _).trans rfl)) | (show (_ : St) = _; rfl) | grind [isSym, snocI, snocS, rowSnoc]))
abbrev P_c_iIsSymbol (s : ByteArray) : Prop := CallOK Try.prog 127 [] [ls s] [] (.sv (lb (isSym s)))
def Tc_iIsSymbolLa (s : ByteArray) (x0 : SV) : St := St.mk (regsOf 43 [(0, AV.sv (ls s)), (3, AV.sv x0)]) [] 0 
def Lc_iIsSymbolLa (s : ByteArray) (k : Nat) : St := Tc_iIsSymbolLa s (li (↑k : Int)) 
def Ic_iIsSymbolLa (s : ByteArray) : Nat → St → Prop := Head (Lc_iIsSymbolLa s) (fun k => k ≤ ByteArray.size s ∧ ByteArray.size s ≤ 16 ∧ (List.all (List.take k (Array.toList
 (ByteArray.data s))) fun b => isMk (↑(UInt8.toNat b) : Int)) = true) fun k => ByteArray.size s - k 
def W0c_iIsSymbolLa (s : ByteArray) : St := St.mk (regsOf 43 []) [] 0 
def W1c_iIsSymbolLa (s : ByteArray) (x0 : SV) : St := St.mk (regsOf 43 [(2, AV.sv x0)]) [] 0 
def Yc_iIsSymbolLa (s : ByteArray) : List (Prop × AEx × St) := [((List.all (Array.toList (ByteArray.data s)) fun b => isMk (↑(UInt8.toNat b) : Int)) = true, AEx.exit 0,
 W0c_iIsSymbolLa s), ((List.all (Array.toList (ByteArray.data s)) fun b => isMk (↑(UInt8.toNat b) : Int)) = false, AEx.ret, W1c_iIsSymbolLa s (lb false))]
theorem Hc_iIsSymbolLa {s : ByteArray} {k : Nat} {m : Nat} (h : (fun k => k ≤ ByteArray.size s ∧ ByteArray.size s ≤ 16 ∧ (List.all (List.take k (Array.toList (ByteArray.data s)))
 fun b => isMk (↑(UInt8.toNat b) : Int)) = true) k) (hm : (fun k => ByteArray.size s - k) k = m) : Ic_iIsSymbolLa s m (Lc_iIsSymbolLa s k) := hm ▸ Head.mk h
theorem Ec_iIsSymbolLa {s : ByteArray} {k : Nat} {x0 : SV} (h0 : x0 = (li (↑k : Int))) : Tc_iIsSymbolLa s x0 = Lc_iIsSymbolLa s k := by
  rw [h0]
  rfl
theorem EW1c_iIsSymbolLa {s : ByteArray} {x0 y0 : SV} (h0 : x0 = y0) : W1c_iIsSymbolLa s x0 = W1c_iIsSymbolLa s y0 := by rw [h0]
theorem run_c_iIsSymbolLa (s : ByteArray) (k : Nat) : aexec Try.prog (loopAt Try.f127 0) (Lc_iIsSymbolLa s k) [Orc.br [Orc.call [Mode.rd] [] (AV.sv (lb (isMk (↑(UInt8.toNat
 (List.getD (Array.toList (ByteArray.data s)) (Int.toNat (↑k : Int)) (0 : UInt8))) : Int)))), Orc.br [Orc.ghost (Ghost.sel [] [2]), Orc.out 1] [Orc.ghost (Ghost.sel [] [0, 3]),
 Orc.goto (ByteArray.size s - (k + 1)) (Lc_iIsSymbolLa s (k + 1))]] [Orc.ghost (Ghost.sel [] []), Orc.out 0]] (loopK (Ic_iIsSymbolLa s) (Yc_iIsSymbolLa s) (ByteArray.size s - k)) =
 (List.length (Array.toList (ByteArray.data s)) ≤ 9223372036854775807 → (decide ((↑k : Int) < (↑(List.length (Array.toList (ByteArray.data s))) : Int)) = true → (0 ≤ (↑k : Int) ∧
 Int.toNat (↑k : Int) < List.length (Array.toList (ByteArray.data s))) ∧ P_c_iMark (↑(UInt8.toNat (List.getD (Array.toList (ByteArray.data s)) (Int.toNat (↑k : Int)) (0 : UInt8)))
 : Int) ∧ ((!isMk (↑(UInt8.toNat (List.getD (Array.toList (ByteArray.data s)) (Int.toNat (↑k : Int)) (0 : UInt8))) : Int)) = true → (List.all (Array.toList (ByteArray.data s)) fun
 b => isMk (↑(UInt8.toNat b) : Int)) = false ∧ W1c_iIsSymbolLa s (lb false) = W1c_iIsSymbolLa s (lb false)) ∧ ((!isMk (↑(UInt8.toNat (List.getD (Array.toList (ByteArray.data s))
 (Int.toNat (↑k : Int)) (0 : UInt8))) : Int)) = false → rng IntKind.i64 ((↑k : Int) + 1) ∧ ByteArray.size s - (k + 1) < ByteArray.size s - k ∧ Tc_iIsSymbolLa s (li ((↑k : Int) +
 1)) = Lc_iIsSymbolLa s (k + 1) ∧ Ic_iIsSymbolLa s (ByteArray.size s - (k + 1)) (Lc_iIsSymbolLa s (k + 1)))) ∧ (decide ((↑k : Int) < (↑(List.length (Array.toList (ByteArray.data
 s))) : Int)) = false → (List.all (Array.toList (ByteArray.data s)) fun b => isMk (↑(UInt8.toNat b) : Int)) = true ∧ W0c_iIsSymbolLa s = W0c_iIsSymbolLa s)) := by kernel_rfl
theorem Sc_iIsSymbolLa (s : ByteArray)  : LoopSem Try.prog (loopAt Try.f127 0) (Ic_iIsSymbolLa s) (Yc_iIsSymbolLa s) := by
  refine LoopSem.ofHead wide fun k h => ⟨_, _, run_c_iIsSymbolLa s k, ?_⟩
  have g1 := @all_stop s.data.toList (fun b => isMk b.toNat) k
  have g2 := @all_go s.data.toList (fun b => isMk b.toNat) k
  have g3 := @all_all s.data.toList (fun b => isMk b.toNat) k
  with_reducible repeat' (first | apply And.intro | exact flatI | exact flatS | exact rowLens | (intro; skip) | apply obsN | apply obsC | apply obA | apply obM | apply obB | apply svA | apply tupA | apply lcA | apply lcS | apply svC | apply liC | apply lbC | apply lsC | apply vIc | apply vBc | apply vSc | apply vLc | apply mapC | apply Hc_iIsSymbolLa | apply Ec_iIsSymbolLa | apply EW1c_iIsSymbolLa | apply c_l1In | apply c_iDigit | apply c_iMark)
  all_goals (try simp only [std] at *)
  all_goals (try (first | with_reducible apply c_l1In | with_reducible apply c_iDigit | with_reducible apply c_iMark | (simp only [← List.map_append]; first | with_reducible apply c_l1In | with_reducible apply c_iDigit | with_reducible apply c_iMark)))
  all_goals (try (first | with_reducible rfl | omega | assumption | (refine (decide_eq_true ?_).symm; assumption) | (refine (decide_eq_false ?_).symm; assumption) | (refine rowGet ?_; (first | omega | (simp only [std]; omega) | grind)) | (refine getC ?_ rfl; (first | omega | (simp only [std]; omega) | grind)) | (refine fill_step ?_ ?_; (first | omega | (simp only [std]; omega) | grind); (first | rfl | exact (Row.eq _).trans rfl)) | (refine fill_init ?_; (first | rfl | exact (Row.eq _).trans rfl)) | (show (_ : St) = _; rfl) | grind [snocI, snocS, rowSnoc]))
abbrev a1_c_iIsSymbol (s : ByteArray) := (↑(UInt8.toNat (List.getD (Array.toList (ByteArray.data s)) 0 (0 : UInt8))) : Int)
abbrev a2_c_iIsSymbol (s : ByteArray) := (↑(UInt8.toNat (List.getD (Array.toList (ByteArray.data s)) 1 (0 : UInt8))) : Int)
theorem run_c_iIsSymbol (s : ByteArray) : aexec Try.prog (Option.getD (Func.body Try.f127) Code.skip) (entry [] [ls s] 43) [Orc.br [Orc.bool true, Orc.bool true, Orc.bool true,
 Orc.fin []] [Orc.br [Orc.bool true, Orc.bool true, Orc.fin []] [Orc.call [Mode.rd] [] (AV.sv (lb (isDig (a1_c_iIsSymbol s)))), Orc.br [Orc.bool true, Orc.fin []] [Orc.br [Orc.br
 [Orc.call [Mode.rd] [] (AV.sv (lb (isDig (a2_c_iIsSymbol s)))), Orc.br [Orc.fin []] [Orc.ghost (Ghost.sel [] [0, 3]), Orc.loop (ByteArray.size s - 0) (Lc_iIsSymbolLa s 0)
 (Ic_iIsSymbolLa s) [((List.all (Array.toList (ByteArray.data s)) fun b => isMk (↑(UInt8.toNat b) : Int)) = true, AEx.exit 0, W0c_iIsSymbolLa s, [Orc.fin []]), ((List.all
 (Array.toList (ByteArray.data s)) fun b => isMk (↑(UInt8.toNat b) : Int)) = false, AEx.ret, W1c_iIsSymbolLa s (lb false), [Orc.fin []])]]] [Orc.bool false, Orc.ghost (Ghost.sel []
 [0, 3]), Orc.loop (ByteArray.size s - 0) (Lc_iIsSymbolLa s 0) (Ic_iIsSymbolLa s) [((List.all (Array.toList (ByteArray.data s)) fun b => isMk (↑(UInt8.toNat b) : Int)) = true,
 AEx.exit 0, W0c_iIsSymbolLa s, [Orc.fin []]), ((List.all (Array.toList (ByteArray.data s)) fun b => isMk (↑(UInt8.toNat b) : Int)) = false, AEx.ret, W1c_iIsSymbolLa s (lb false),
 [Orc.fin []])]]] [Orc.bool false, Orc.bool false, Orc.ghost (Ghost.sel [] [0, 3]), Orc.loop (ByteArray.size s - 0) (Lc_iIsSymbolLa s 0) (Ic_iIsSymbolLa s) [((List.all
 (Array.toList (ByteArray.data s)) fun b => isMk (↑(UInt8.toNat b) : Int)) = true, AEx.exit 0, W0c_iIsSymbolLa s, [Orc.fin []]), ((List.all (Array.toList (ByteArray.data s)) fun b
 => isMk (↑(UInt8.toNat b) : Int)) = false, AEx.ret, W1c_iIsSymbolLa s (lb false), [Orc.fin []])]]]]]] (finK Try.prog [ResultVar.tmp 2] [] (AV.sv (lb (isSym s)))) = (List.length
 (Array.toList (ByteArray.data s)) ≤ 9223372036854775807 → (decide ((↑(List.length (Array.toList (ByteArray.data s))) : Int) < 1) = true → true = true ∧ true = true ∧ true = true ∧
 ObsEq [] [] ∧ AV.sv (lb false) = AV.sv (lb (isSym s))) ∧ (decide ((↑(List.length (Array.toList (ByteArray.data s))) : Int) < 1) = false → List.length (Array.toList (ByteArray.data
 s)) ≤ 9223372036854775807 → (decide (16 < (↑(List.length (Array.toList (ByteArray.data s))) : Int)) = true → true = true ∧ true = true ∧ ObsEq [] [] ∧ AV.sv (lb false) = AV.sv (lb
 (isSym s))) ∧ (decide (16 < (↑(List.length (Array.toList (ByteArray.data s))) : Int)) = false → ((0 : Int) ≤ 0 ∧ 0 < List.length (Array.toList (ByteArray.data s))) ∧ P_c_iDigit
 (a1_c_iIsSymbol s) ∧ (isDig (a1_c_iIsSymbol s) = true → true = true ∧ ObsEq [] [] ∧ AV.sv (lb false) = AV.sv (lb (isSym s))) ∧ (isDig (a1_c_iIsSymbol s) = false → ((0 : Int) ≤ 0 ∧
 0 < List.length (Array.toList (ByteArray.data s))) ∧ (decide ((a1_c_iIsSymbol s) = 45) = true → List.length (Array.toList (ByteArray.data s)) ≤ 9223372036854775807 → (decide (1 <
 (↑(List.length (Array.toList (ByteArray.data s))) : Int)) = true → ((0 : Int) ≤ 1 ∧ 1 < List.length (Array.toList (ByteArray.data s))) ∧ P_c_iDigit (a2_c_iIsSymbol s) ∧ (isDig
 (a2_c_iIsSymbol s) = true → ObsEq [] [] ∧ AV.sv (lb false) = AV.sv (lb (isSym s))) ∧ (isDig (a2_c_iIsSymbol s) = false → Tc_iIsSymbolLa s (li 0) = Lc_iIsSymbolLa s 0 ∧
 Ic_iIsSymbolLa s (ByteArray.size s - 0) (Lc_iIsSymbolLa s 0) ∧ LoopSem Try.prog (loopAt Try.f127 0) (Ic_iIsSymbolLa s) (Yc_iIsSymbolLa s) ∧ ((List.all (Array.toList
 (ByteArray.data s)) fun b => isMk (↑(UInt8.toNat b) : Int)) = true → ObsEq [] [] ∧ AV.sv (lb true) = AV.sv (lb (isSym s))) ∧ ((List.all (Array.toList (ByteArray.data s)) fun b =>
 isMk (↑(UInt8.toNat b) : Int)) = false → ObsEq [] [] ∧ AV.sv (lb false) = AV.sv (lb (isSym s))) ∧ True)) ∧ (decide (1 < (↑(List.length (Array.toList (ByteArray.data s))) : Int)) =
 false → false = false ∧ Tc_iIsSymbolLa s (li 0) = Lc_iIsSymbolLa s 0 ∧ Ic_iIsSymbolLa s (ByteArray.size s - 0) (Lc_iIsSymbolLa s 0) ∧ LoopSem Try.prog (loopAt Try.f127 0)
 (Ic_iIsSymbolLa s) (Yc_iIsSymbolLa s) ∧ ((List.all (Array.toList (ByteArray.data s)) fun b => isMk (↑(UInt8.toNat b) : Int)) = true → ObsEq [] [] ∧ AV.sv (lb true) = AV.sv (lb
 (isSym s))) ∧ ((List.all (Array.toList (ByteArray.data s)) fun b => isMk (↑(UInt8.toNat b) : Int)) = false → ObsEq [] [] ∧ AV.sv (lb false) = AV.sv (lb (isSym s))) ∧ True)) ∧
 (decide ((a1_c_iIsSymbol s) = 45) = false → false = false ∧ false = false ∧ Tc_iIsSymbolLa s (li 0) = Lc_iIsSymbolLa s 0 ∧ Ic_iIsSymbolLa s (ByteArray.size s - 0) (Lc_iIsSymbolLa
 s 0) ∧ LoopSem Try.prog (loopAt Try.f127 0) (Ic_iIsSymbolLa s) (Yc_iIsSymbolLa s) ∧ ((List.all (Array.toList (ByteArray.data s)) fun b => isMk (↑(UInt8.toNat b) : Int)) = true →
 ObsEq [] [] ∧ AV.sv (lb true) = AV.sv (lb (isSym s))) ∧ ((List.all (Array.toList (ByteArray.data s)) fun b => isMk (↑(UInt8.toNat b) : Int)) = false → ObsEq [] [] ∧ AV.sv (lb
 false) = AV.sv (lb (isSym s))) ∧ True))))) := by kernel_rfl
theorem c_iIsSymbol (s : ByteArray)  : P_c_iIsSymbol s := by
  refine CallOK.ofRun wide (run_c_iIsSymbol s) Try.call127 Try.func127 rfl rfl rfl ?_
  try delta a1_c_iIsSymbol a2_c_iIsSymbol
  with_reducible repeat' (first | apply And.intro | exact flatI | exact flatS | exact rowLens | (intro; skip) | apply obsN | apply obsC | apply obA | apply obM | apply obB | apply svA | apply tupA | apply lcA | apply lcS | apply svC | apply liC | apply lbC | apply lsC | apply vIc | apply vBc | apply vSc | apply vLc | apply mapC | apply Hc_iIsSymbolLa | apply Ec_iIsSymbolLa | apply Sc_iIsSymbolLa | apply EW1c_iIsSymbolLa | apply c_l1In | apply c_iDigit | apply c_iMark)
  all_goals (try simp only [std] at *)
  all_goals (try (first | with_reducible apply c_l1In | with_reducible apply c_iDigit | with_reducible apply c_iMark | (simp only [← List.map_append]; first | with_reducible apply c_l1In | with_reducible apply c_iDigit | with_reducible apply c_iMark)))
  all_goals (try (first | with_reducible rfl | omega | assumption | (refine (decide_eq_true ?_).symm; assumption) | (refine (decide_eq_false ?_).symm; assumption) | (refine rowGet ?_; (first | omega | (simp only [std]; omega) | grind)) | (refine getC ?_ rfl; (first | omega | (simp only [std]; omega) | grind)) | (refine fill_step ?_ ?_; (first | omega | (simp only [std]; omega) | grind); (first | rfl | exact (Row.eq _).trans rfl)) | (refine fill_init ?_; (first | rfl | exact (Row.eq _).trans rfl)) | (show (_ : St) = _; rfl) | grind [isSym, snocI, snocS, rowSnoc]))
abbrev P_c_sString (s : ByteArray) : Prop := CallOK Try.prog 285 [] [ls s] [] (.sv (lb (isStr s)))
def Tc_sStringLa (s : ByteArray) (x0 : SV) : St := St.mk (regsOf 29 [(0, AV.sv (ls s)), (3, AV.sv x0)]) [] 0 
def Lc_sStringLa (s : ByteArray) (k : Nat) : St := Tc_sStringLa s (li (↑k : Int)) 
def Ic_sStringLa (s : ByteArray) : Nat → St → Prop := Head (Lc_sStringLa s) (fun k => k ≤ ByteArray.size s ∧ (List.all (List.take k (Array.toList (ByteArray.data s))) fun b =>
 isStB (↑(UInt8.toNat b) : Int)) = true) fun k => ByteArray.size s - k 
def W0c_sStringLa (s : ByteArray) : St := St.mk (regsOf 29 [(0, AV.sv (ls s))]) [] 0 
def W1c_sStringLa (s : ByteArray) (x0 : SV) : St := St.mk (regsOf 29 [(2, AV.sv x0)]) [] 0 
def Yc_sStringLa (s : ByteArray) : List (Prop × AEx × St) := [((List.all (Array.toList (ByteArray.data s)) fun b => isStB (↑(UInt8.toNat b) : Int)) = true, AEx.exit 0,
 W0c_sStringLa s), ((List.all (Array.toList (ByteArray.data s)) fun b => isStB (↑(UInt8.toNat b) : Int)) = false, AEx.ret, W1c_sStringLa s (lb false))]
theorem Hc_sStringLa {s : ByteArray} {k : Nat} {m : Nat} (h : (fun k => k ≤ ByteArray.size s ∧ (List.all (List.take k (Array.toList (ByteArray.data s))) fun b => isStB
 (↑(UInt8.toNat b) : Int)) = true) k) (hm : (fun k => ByteArray.size s - k) k = m) : Ic_sStringLa s m (Lc_sStringLa s k) := hm ▸ Head.mk h
theorem Ec_sStringLa {s : ByteArray} {k : Nat} {x0 : SV} (h0 : x0 = (li (↑k : Int))) : Tc_sStringLa s x0 = Lc_sStringLa s k := by
  rw [h0]
  rfl
theorem EW1c_sStringLa {s : ByteArray} {x0 y0 : SV} (h0 : x0 = y0) : W1c_sStringLa s x0 = W1c_sStringLa s y0 := by rw [h0]
theorem run_c_sStringLa (s : ByteArray) (k : Nat) : aexec Try.prog (loopAt Try.f285 0) (Lc_sStringLa s k) [Orc.br [Orc.br [Orc.bool true, Orc.bool true, Orc.ghost (Ghost.sel []
 [2]), Orc.out 1] [Orc.br [Orc.bool true, Orc.ghost (Ghost.sel [] [2]), Orc.out 1] [Orc.br [Orc.ghost (Ghost.sel [] [2]), Orc.out 1] [Orc.ghost (Ghost.sel [] [0, 3]), Orc.goto
 (ByteArray.size s - (k + 1)) (Lc_sStringLa s (k + 1))]]]] [Orc.ghost (Ghost.sel [] [0]), Orc.out 0]] (loopK (Ic_sStringLa s) (Yc_sStringLa s) (ByteArray.size s - k)) =
 (List.length (Array.toList (ByteArray.data s)) ≤ 9223372036854775807 → (decide ((↑k : Int) < (↑(List.length (Array.toList (ByteArray.data s))) : Int)) = true → (0 ≤ (↑k : Int) ∧
 Int.toNat (↑k : Int) < List.length (Array.toList (ByteArray.data s))) ∧ (decide ((↑(UInt8.toNat (List.getD (Array.toList (ByteArray.data s)) (Int.toNat (↑k : Int)) (0 : UInt8))) :
 Int) < 32) = true → true = true ∧ true = true ∧ (List.all (Array.toList (ByteArray.data s)) fun b => isStB (↑(UInt8.toNat b) : Int)) = false ∧ W1c_sStringLa s (lb false) =
 W1c_sStringLa s (lb false)) ∧ (decide ((↑(UInt8.toNat (List.getD (Array.toList (ByteArray.data s)) (Int.toNat (↑k : Int)) (0 : UInt8))) : Int) < 32) = false → (0 ≤ (↑k : Int) ∧
 Int.toNat (↑k : Int) < List.length (Array.toList (ByteArray.data s))) ∧ (decide (126 < (↑(UInt8.toNat (List.getD (Array.toList (ByteArray.data s)) (Int.toNat (↑k : Int)) (0 :
 UInt8))) : Int)) = true → true = true ∧ (List.all (Array.toList (ByteArray.data s)) fun b => isStB (↑(UInt8.toNat b) : Int)) = false ∧ W1c_sStringLa s (lb false) = W1c_sStringLa s
 (lb false)) ∧ (decide (126 < (↑(UInt8.toNat (List.getD (Array.toList (ByteArray.data s)) (Int.toNat (↑k : Int)) (0 : UInt8))) : Int)) = false → (0 ≤ (↑k : Int) ∧ Int.toNat (↑k :
 Int) < List.length (Array.toList (ByteArray.data s))) ∧ (decide ((↑(UInt8.toNat (List.getD (Array.toList (ByteArray.data s)) (Int.toNat (↑k : Int)) (0 : UInt8))) : Int) = 34) =
 true → (List.all (Array.toList (ByteArray.data s)) fun b => isStB (↑(UInt8.toNat b) : Int)) = false ∧ W1c_sStringLa s (lb false) = W1c_sStringLa s (lb false)) ∧ (decide
 ((↑(UInt8.toNat (List.getD (Array.toList (ByteArray.data s)) (Int.toNat (↑k : Int)) (0 : UInt8))) : Int) = 34) = false → rng IntKind.i64 ((↑k : Int) + 1) ∧ ByteArray.size s - (k +
 1) < ByteArray.size s - k ∧ Tc_sStringLa s (li ((↑k : Int) + 1)) = Lc_sStringLa s (k + 1) ∧ Ic_sStringLa s (ByteArray.size s - (k + 1)) (Lc_sStringLa s (k + 1)))))) ∧ (decide ((↑k
 : Int) < (↑(List.length (Array.toList (ByteArray.data s))) : Int)) = false → (List.all (Array.toList (ByteArray.data s)) fun b => isStB (↑(UInt8.toNat b) : Int)) = true ∧
 W0c_sStringLa s = W0c_sStringLa s)) := by kernel_rfl
theorem Sc_sStringLa (s : ByteArray)  : LoopSem Try.prog (loopAt Try.f285 0) (Ic_sStringLa s) (Yc_sStringLa s) := by
  refine LoopSem.ofHead wide fun k h => ⟨_, _, run_c_sStringLa s k, ?_⟩
  have g1 := @all_stop s.data.toList (fun b => isStB b.toNat) k
  have g2 := @all_go s.data.toList (fun b => isStB b.toNat) k
  have g3 := @all_all s.data.toList (fun b => isStB b.toNat) k
  with_reducible repeat' (first | apply And.intro | exact flatI | exact flatS | exact rowLens | (intro; skip) | apply obsN | apply obsC | apply obA | apply obM | apply obB | apply svA | apply tupA | apply lcA | apply lcS | apply svC | apply liC | apply lbC | apply lsC | apply vIc | apply vBc | apply vSc | apply vLc | apply mapC | apply Hc_sStringLa | apply Ec_sStringLa | apply EW1c_sStringLa)
  all_goals (try simp only [std] at *)
  all_goals (try (first | with_reducible rfl | omega | assumption | (refine (decide_eq_true ?_).symm; assumption) | (refine (decide_eq_false ?_).symm; assumption) | (refine rowGet ?_; (first | omega | (simp only [std]; omega) | grind)) | (refine getC ?_ rfl; (first | omega | (simp only [std]; omega) | grind)) | (refine fill_step ?_ ?_; (first | omega | (simp only [std]; omega) | grind); (first | rfl | exact (Row.eq _).trans rfl)) | (refine fill_init ?_; (first | rfl | exact (Row.eq _).trans rfl)) | (show (_ : St) = _; rfl) | grind [isStB, snocI, snocS, rowSnoc]))
theorem run_c_sString (s : ByteArray) : aexec Try.prog (Option.getD (Func.body Try.f285) Code.skip) (entry [] [ls s] 29) [Orc.ghost (Ghost.sel [] [0, 3]), Orc.loop (ByteArray.size
 s - 0) (Lc_sStringLa s 0) (Ic_sStringLa s) [((List.all (Array.toList (ByteArray.data s)) fun b => isStB (↑(UInt8.toNat b) : Int)) = true, AEx.exit 0, W0c_sStringLa s, [Orc.fin
 []]), ((List.all (Array.toList (ByteArray.data s)) fun b => isStB (↑(UInt8.toNat b) : Int)) = false, AEx.ret, W1c_sStringLa s (lb false), [Orc.fin []])]] (finK Try.prog
 [ResultVar.tmp 2] [] (AV.sv (lb (isStr s)))) = (Tc_sStringLa s (li 0) = Lc_sStringLa s 0 ∧ Ic_sStringLa s (ByteArray.size s - 0) (Lc_sStringLa s 0) ∧ LoopSem Try.prog (loopAt
 Try.f285 0) (Ic_sStringLa s) (Yc_sStringLa s) ∧ ((List.all (Array.toList (ByteArray.data s)) fun b => isStB (↑(UInt8.toNat b) : Int)) = true → List.length (Array.toList
 (ByteArray.data s)) ≤ 9223372036854775807 → ObsEq [] [] ∧ AV.sv (lb (decide ((↑(List.length (Array.toList (ByteArray.data s))) : Int) ≤ 20))) = AV.sv (lb (isStr s))) ∧ ((List.all
 (Array.toList (ByteArray.data s)) fun b => isStB (↑(UInt8.toNat b) : Int)) = false → ObsEq [] [] ∧ AV.sv (lb false) = AV.sv (lb (isStr s))) ∧ True) := by kernel_rfl
theorem c_sString (s : ByteArray)  : P_c_sString s := by
  refine CallOK.ofRun wide (run_c_sString s) Try.call285 Try.func285 rfl rfl rfl ?_
  with_reducible repeat' (first | apply And.intro | exact flatI | exact flatS | exact rowLens | (intro; skip) | apply obsN | apply obsC | apply obA | apply obM | apply obB | apply svA | apply tupA | apply lcA | apply lcS | apply svC | apply liC | apply lbC | apply lsC | apply vIc | apply vBc | apply vSc | apply vLc | apply mapC | apply Hc_sStringLa | apply Ec_sStringLa | apply Sc_sStringLa | apply EW1c_sStringLa)
  all_goals (try simp only [std] at *)
  all_goals (try (first | with_reducible rfl | omega | assumption | (refine (decide_eq_true ?_).symm; assumption) | (refine (decide_eq_false ?_).symm; assumption) | (refine rowGet ?_; (first | omega | (simp only [std]; omega) | grind)) | (refine getC ?_ rfl; (first | omega | (simp only [std]; omega) | grind)) | (refine fill_step ?_ ?_; (first | omega | (simp only [std]; omega) | grind); (first | rfl | exact (Row.eq _).trans rfl)) | (refine fill_init ?_; (first | rfl | exact (Row.eq _).trans rfl)) | (show (_ : St) = _; rfl) | grind [isStr, snocI, snocS, rowSnoc]))
abbrev P_c_iString (s : ByteArray) : Prop := CallOK Try.prog 286 [] [ls s] [] (.sv (lb (isStr s)))
def Tc_iStringLa (s : ByteArray) (x0 : SV) : St := St.mk (regsOf 29 [(0, AV.sv (ls s)), (3, AV.sv x0)]) [] 0 
def Lc_iStringLa (s : ByteArray) (k : Nat) : St := Tc_iStringLa s (li (↑k : Int)) 
def Ic_iStringLa (s : ByteArray) : Nat → St → Prop := Head (Lc_iStringLa s) (fun k => k ≤ ByteArray.size s ∧ (List.all (List.take k (Array.toList (ByteArray.data s))) fun b =>
 isStB (↑(UInt8.toNat b) : Int)) = true) fun k => ByteArray.size s - k 
def W0c_iStringLa (s : ByteArray) : St := St.mk (regsOf 29 []) [] 0 
def W1c_iStringLa (s : ByteArray) (x0 : SV) : St := St.mk (regsOf 29 [(2, AV.sv x0)]) [] 0 
def Yc_iStringLa (s : ByteArray) : List (Prop × AEx × St) := [((List.all (Array.toList (ByteArray.data s)) fun b => isStB (↑(UInt8.toNat b) : Int)) = true, AEx.exit 0,
 W0c_iStringLa s), ((List.all (Array.toList (ByteArray.data s)) fun b => isStB (↑(UInt8.toNat b) : Int)) = false, AEx.ret, W1c_iStringLa s (lb false))]
theorem Hc_iStringLa {s : ByteArray} {k : Nat} {m : Nat} (h : (fun k => k ≤ ByteArray.size s ∧ (List.all (List.take k (Array.toList (ByteArray.data s))) fun b => isStB
 (↑(UInt8.toNat b) : Int)) = true) k) (hm : (fun k => ByteArray.size s - k) k = m) : Ic_iStringLa s m (Lc_iStringLa s k) := hm ▸ Head.mk h
theorem Ec_iStringLa {s : ByteArray} {k : Nat} {x0 : SV} (h0 : x0 = (li (↑k : Int))) : Tc_iStringLa s x0 = Lc_iStringLa s k := by
  rw [h0]
  rfl
theorem EW1c_iStringLa {s : ByteArray} {x0 y0 : SV} (h0 : x0 = y0) : W1c_iStringLa s x0 = W1c_iStringLa s y0 := by rw [h0]
theorem run_c_iStringLa (s : ByteArray) (k : Nat) : aexec Try.prog (loopAt Try.f286 0) (Lc_iStringLa s k) [Orc.br [Orc.br [Orc.bool true, Orc.bool true, Orc.ghost (Ghost.sel []
 [2]), Orc.out 1] [Orc.br [Orc.bool true, Orc.ghost (Ghost.sel [] [2]), Orc.out 1] [Orc.br [Orc.ghost (Ghost.sel [] [2]), Orc.out 1] [Orc.ghost (Ghost.sel [] [0, 3]), Orc.goto
 (ByteArray.size s - (k + 1)) (Lc_iStringLa s (k + 1))]]]] [Orc.ghost (Ghost.sel [] []), Orc.out 0]] (loopK (Ic_iStringLa s) (Yc_iStringLa s) (ByteArray.size s - k)) = (List.length
 (Array.toList (ByteArray.data s)) ≤ 9223372036854775807 → (decide ((↑k : Int) < (↑(List.length (Array.toList (ByteArray.data s))) : Int)) = true → (0 ≤ (↑k : Int) ∧ Int.toNat (↑k
 : Int) < List.length (Array.toList (ByteArray.data s))) ∧ (decide ((↑(UInt8.toNat (List.getD (Array.toList (ByteArray.data s)) (Int.toNat (↑k : Int)) (0 : UInt8))) : Int) < 32) =
 true → true = true ∧ true = true ∧ (List.all (Array.toList (ByteArray.data s)) fun b => isStB (↑(UInt8.toNat b) : Int)) = false ∧ W1c_iStringLa s (lb false) = W1c_iStringLa s (lb
 false)) ∧ (decide ((↑(UInt8.toNat (List.getD (Array.toList (ByteArray.data s)) (Int.toNat (↑k : Int)) (0 : UInt8))) : Int) < 32) = false → (0 ≤ (↑k : Int) ∧ Int.toNat (↑k : Int) <
 List.length (Array.toList (ByteArray.data s))) ∧ (decide (126 < (↑(UInt8.toNat (List.getD (Array.toList (ByteArray.data s)) (Int.toNat (↑k : Int)) (0 : UInt8))) : Int)) = true →
 true = true ∧ (List.all (Array.toList (ByteArray.data s)) fun b => isStB (↑(UInt8.toNat b) : Int)) = false ∧ W1c_iStringLa s (lb false) = W1c_iStringLa s (lb false)) ∧ (decide
 (126 < (↑(UInt8.toNat (List.getD (Array.toList (ByteArray.data s)) (Int.toNat (↑k : Int)) (0 : UInt8))) : Int)) = false → (0 ≤ (↑k : Int) ∧ Int.toNat (↑k : Int) < List.length
 (Array.toList (ByteArray.data s))) ∧ (decide ((↑(UInt8.toNat (List.getD (Array.toList (ByteArray.data s)) (Int.toNat (↑k : Int)) (0 : UInt8))) : Int) = 34) = true → (List.all
 (Array.toList (ByteArray.data s)) fun b => isStB (↑(UInt8.toNat b) : Int)) = false ∧ W1c_iStringLa s (lb false) = W1c_iStringLa s (lb false)) ∧ (decide ((↑(UInt8.toNat (List.getD
 (Array.toList (ByteArray.data s)) (Int.toNat (↑k : Int)) (0 : UInt8))) : Int) = 34) = false → rng IntKind.i64 ((↑k : Int) + 1) ∧ ByteArray.size s - (k + 1) < ByteArray.size s - k
 ∧ Tc_iStringLa s (li ((↑k : Int) + 1)) = Lc_iStringLa s (k + 1) ∧ Ic_iStringLa s (ByteArray.size s - (k + 1)) (Lc_iStringLa s (k + 1)))))) ∧ (decide ((↑k : Int) < (↑(List.length
 (Array.toList (ByteArray.data s))) : Int)) = false → (List.all (Array.toList (ByteArray.data s)) fun b => isStB (↑(UInt8.toNat b) : Int)) = true ∧ W0c_iStringLa s = W0c_iStringLa
 s)) := by kernel_rfl
theorem Sc_iStringLa (s : ByteArray)  : LoopSem Try.prog (loopAt Try.f286 0) (Ic_iStringLa s) (Yc_iStringLa s) := by
  refine LoopSem.ofHead wide fun k h => ⟨_, _, run_c_iStringLa s k, ?_⟩
  have g1 := @all_stop s.data.toList (fun b => isStB b.toNat) k
  have g2 := @all_go s.data.toList (fun b => isStB b.toNat) k
  have g3 := @all_all s.data.toList (fun b => isStB b.toNat) k
  with_reducible repeat' (first | apply And.intro | exact flatI | exact flatS | exact rowLens | (intro; skip) | apply obsN | apply obsC | apply obA | apply obM | apply obB | apply svA | apply tupA | apply lcA | apply lcS | apply svC | apply liC | apply lbC | apply lsC | apply vIc | apply vBc | apply vSc | apply vLc | apply mapC | apply Hc_iStringLa | apply Ec_iStringLa | apply EW1c_iStringLa)
  all_goals (try simp only [std] at *)
  all_goals (try (first | with_reducible rfl | omega | assumption | (refine (decide_eq_true ?_).symm; assumption) | (refine (decide_eq_false ?_).symm; assumption) | (refine rowGet ?_; (first | omega | (simp only [std]; omega) | grind)) | (refine getC ?_ rfl; (first | omega | (simp only [std]; omega) | grind)) | (refine fill_step ?_ ?_; (first | omega | (simp only [std]; omega) | grind); (first | rfl | exact (Row.eq _).trans rfl)) | (refine fill_init ?_; (first | rfl | exact (Row.eq _).trans rfl)) | (show (_ : St) = _; rfl) | grind [isStB, snocI, snocS, rowSnoc]))
theorem run_c_iString (s : ByteArray) : aexec Try.prog (Option.getD (Func.body Try.f286) Code.skip) (entry [] [ls s] 29) [Orc.br [Orc.fin []] [Orc.ghost (Ghost.sel [] [0, 3]),
 Orc.loop (ByteArray.size s - 0) (Lc_iStringLa s 0) (Ic_iStringLa s) [((List.all (Array.toList (ByteArray.data s)) fun b => isStB (↑(UInt8.toNat b) : Int)) = true, AEx.exit 0,
 W0c_iStringLa s, [Orc.fin []]), ((List.all (Array.toList (ByteArray.data s)) fun b => isStB (↑(UInt8.toNat b) : Int)) = false, AEx.ret, W1c_iStringLa s (lb false), [Orc.fin
 []])]]] (finK Try.prog [ResultVar.tmp 2] [] (AV.sv (lb (isStr s)))) = (List.length (Array.toList (ByteArray.data s)) ≤ 9223372036854775807 → (decide (20 < (↑(List.length
 (Array.toList (ByteArray.data s))) : Int)) = true → ObsEq [] [] ∧ AV.sv (lb false) = AV.sv (lb (isStr s))) ∧ (decide (20 < (↑(List.length (Array.toList (ByteArray.data s))) :
 Int)) = false → Tc_iStringLa s (li 0) = Lc_iStringLa s 0 ∧ Ic_iStringLa s (ByteArray.size s - 0) (Lc_iStringLa s 0) ∧ LoopSem Try.prog (loopAt Try.f286 0) (Ic_iStringLa s)
 (Yc_iStringLa s) ∧ ((List.all (Array.toList (ByteArray.data s)) fun b => isStB (↑(UInt8.toNat b) : Int)) = true → ObsEq [] [] ∧ AV.sv (lb true) = AV.sv (lb (isStr s))) ∧
 ((List.all (Array.toList (ByteArray.data s)) fun b => isStB (↑(UInt8.toNat b) : Int)) = false → ObsEq [] [] ∧ AV.sv (lb false) = AV.sv (lb (isStr s))) ∧ True)) := by kernel_rfl
theorem c_iString (s : ByteArray)  : P_c_iString s := by
  refine CallOK.ofRun wide (run_c_iString s) Try.call286 Try.func286 rfl rfl rfl ?_
  with_reducible repeat' (first | apply And.intro | exact flatI | exact flatS | exact rowLens | (intro; skip) | apply obsN | apply obsC | apply obA | apply obM | apply obB | apply svA | apply tupA | apply lcA | apply lcS | apply svC | apply liC | apply lbC | apply lsC | apply vIc | apply vBc | apply vSc | apply vLc | apply mapC | apply Hc_iStringLa | apply Ec_iStringLa | apply Sc_iStringLa | apply EW1c_iStringLa)
  all_goals (try simp only [std] at *)
  all_goals (try (first | with_reducible rfl | omega | assumption | (refine (decide_eq_true ?_).symm; assumption) | (refine (decide_eq_false ?_).symm; assumption) | (refine rowGet ?_; (first | omega | (simp only [std]; omega) | grind)) | (refine getC ?_ rfl; (first | omega | (simp only [std]; omega) | grind)) | (refine fill_step ?_ ?_; (first | omega | (simp only [std]; omega) | grind); (first | rfl | exact (Row.eq _).trans rfl)) | (refine fill_init ?_; (first | rfl | exact (Row.eq _).trans rfl)) | (show (_ : St) = _; rfl) | grind [isStr, snocI, snocS, rowSnoc]))
def isNam (s : ByteArray) : Bool := isSym s && decide ((s.size : Int) ≤ 8)
abbrev P_c_sNam (s : ByteArray) : Prop := CallOK Try.prog 119 [] [ls s] [] (.sv (lb (isNam s)))
theorem run_c_sNam (s : ByteArray) : aexec Try.prog (Option.getD (Func.body Try.f119) Code.skip) (entry [] [ls s] 10) [Orc.br [Orc.call [Mode.rd] [] (AV.sv (lb (isSym s))), Orc.fin
 []] [Orc.fin []]] (finK Try.prog [ResultVar.tmp 2] [] (AV.sv (lb (isNam s)))) = (List.length (Array.toList (ByteArray.data s)) ≤ 9223372036854775807 → (decide ((↑(List.length
 (Array.toList (ByteArray.data s))) : Int) ≤ 8) = true → P_c_sIsSymbol s ∧ ObsEq [] [] ∧ AV.sv (lb (isSym s)) = AV.sv (lb (isNam s))) ∧ (decide ((↑(List.length (Array.toList
 (ByteArray.data s))) : Int) ≤ 8) = false → ObsEq [] [] ∧ AV.sv (lb false) = AV.sv (lb (isNam s)))) := by kernel_rfl
theorem c_sNam (s : ByteArray)  : P_c_sNam s := by
  refine CallOK.ofRun wide (run_c_sNam s) Try.call119 Try.func119 rfl rfl rfl ?_
  with_reducible repeat' (first | apply And.intro | exact flatI | exact flatS | exact rowLens | (intro; skip) | apply obsN | apply obsC | apply obA | apply obM | apply obB | apply svA | apply tupA | apply lcA | apply lcS | apply svC | apply liC | apply lbC | apply lsC | apply vIc | apply vBc | apply vSc | apply vLc | apply mapC | apply c_sIsSymbol)
  all_goals (try simp only [std] at *)
  all_goals (try (first | with_reducible apply c_sIsSymbol | (simp only [← List.map_append]; first | with_reducible apply c_sIsSymbol)))
  all_goals (try (first | with_reducible rfl | omega | assumption | (refine (decide_eq_true ?_).symm; assumption) | (refine (decide_eq_false ?_).symm; assumption) | (refine rowGet ?_; (first | omega | (simp only [std]; omega) | grind)) | (refine getC ?_ rfl; (first | omega | (simp only [std]; omega) | grind)) | (refine fill_step ?_ ?_; (first | omega | (simp only [std]; omega) | grind); (first | rfl | exact (Row.eq _).trans rfl)) | (refine fill_init ?_; (first | rfl | exact (Row.eq _).trans rfl)) | (show (_ : St) = _; rfl) | grind [isNam, snocI, snocS, rowSnoc]))
abbrev P_c_iNam (s : ByteArray) : Prop := CallOK Try.prog 126 [] [ls s] [] (.sv (lb (isNam s)))
theorem run_c_iNam (s : ByteArray) : aexec Try.prog (Option.getD (Func.body Try.f126) Code.skip) (entry [] [ls s] 10) [Orc.call [Mode.rd] [] (AV.sv (lb (isSym s))), Orc.br [Orc.fin
 []] [Orc.fin []]] (finK Try.prog [ResultVar.tmp 2] [] (AV.sv (lb (isNam s)))) = (P_c_iIsSymbol s ∧ (isSym s = true → List.length (Array.toList (ByteArray.data s)) ≤
 9223372036854775807 → ObsEq [] [] ∧ AV.sv (lb (decide ((↑(List.length (Array.toList (ByteArray.data s))) : Int) ≤ 8))) = AV.sv (lb (isNam s))) ∧ (isSym s = false → ObsEq [] [] ∧
 AV.sv (lb false) = AV.sv (lb (isNam s)))) := by kernel_rfl
theorem c_iNam (s : ByteArray)  : P_c_iNam s := by
  refine CallOK.ofRun wide (run_c_iNam s) Try.call126 Try.func126 rfl rfl rfl ?_
  with_reducible repeat' (first | apply And.intro | exact flatI | exact flatS | exact rowLens | (intro; skip) | apply obsN | apply obsC | apply obA | apply obM | apply obB | apply svA | apply tupA | apply lcA | apply lcS | apply svC | apply liC | apply lbC | apply lsC | apply vIc | apply vBc | apply vSc | apply vLc | apply mapC | apply c_iIsSymbol)
  all_goals (try simp only [std] at *)
  all_goals (try (first | with_reducible apply c_iIsSymbol | (simp only [← List.map_append]; first | with_reducible apply c_iIsSymbol)))
  all_goals (try (first | with_reducible rfl | omega | assumption | (refine (decide_eq_true ?_).symm; assumption) | (refine (decide_eq_false ?_).symm; assumption) | (refine rowGet ?_; (first | omega | (simp only [std]; omega) | grind)) | (refine getC ?_ rfl; (first | omega | (simp only [std]; omega) | grind)) | (refine fill_step ?_ ?_; (first | omega | (simp only [std]; omega) | grind); (first | rfl | exact (Row.eq _).trans rfl)) | (refine fill_init ?_; (first | rfl | exact (Row.eq _).trans rfl)) | (show (_ : St) = _; rfl) | grind [isNam, snocI, snocS, rowSnoc]))
def nodD (k n : Int) (t : ByteArray) (i : Int) : Bool := decide (k = 0 ∧ n = 0 ∧ t.data.toList = []) || decide (k = 1 ∧ n = 0 ∧ isSym t = true ∧ i = 0) || decide (k = 2 ∧ -999999999 ≤ n ∧ n ≤ 999999999 ∧ t.data.toList = [] ∧ i = 0) || decide (k = 3 ∧ 0 ≤ n ∧ n ≤ 1 ∧ t.data.toList = [] ∧ i = 0) || decide (k = 4 ∧ n = 0 ∧ isStr t = true ∧ i = 0)
abbrev P_c_sNode (k : Int) (n : Int) (t : ByteArray) (i : Int) : Prop := CallOK Try.prog 271 [] [li k, li n, ls t, li i] [] (.sv (lb (nodD k n t i)))
theorem run_c_sNode (k : Int) (n : Int) (t : ByteArray) (i : Int) : aexec Try.prog (Option.getD (Func.body Try.f271) Code.skip) (entry [] [li k, li n, ls t, li i] 66) [Orc.br
 [Orc.br [Orc.fin []] [Orc.fin []]] [Orc.br [Orc.br [Orc.call [Mode.rd] [] (AV.sv (lb (isSym t))), Orc.br [Orc.fin []] [Orc.fin []]] [Orc.bool false, Orc.fin []]] [Orc.br [Orc.call
 [Mode.rd, Mode.rd, Mode.rd] [] (AV.sv (lb (decide ((-999999999 : Int) ≤ n ∧ n ≤ 999999999)))), Orc.br [Orc.br [Orc.fin []] [Orc.fin []]] [Orc.bool false, Orc.fin []]] [Orc.br
 [Orc.call [Mode.rd, Mode.rd, Mode.rd] [] (AV.sv (lb (decide (0 ≤ n ∧ n ≤ 1)))), Orc.br [Orc.br [Orc.fin []] [Orc.fin []]] [Orc.bool false, Orc.fin []]] [Orc.br [Orc.br [Orc.call
 [Mode.rd] [] (AV.sv (lb (isStr t))), Orc.br [Orc.fin []] [Orc.fin []]] [Orc.bool false, Orc.fin []]] [Orc.fin []]]]]]] (finK Try.prog [ResultVar.tmp 8] [] (AV.sv (lb (nodD k n t
 i)))) = ((decide (k = 0) = true → (decide (n = 0) = true → ObsEq [] [] ∧ AV.sv (lb (decide (Array.toList (ByteArray.data t) = []))) = AV.sv (lb (nodD k n t i))) ∧ (decide (n = 0)
 = false → ObsEq [] [] ∧ AV.sv (lb false) = AV.sv (lb (nodD k n t i)))) ∧ (decide (k = 0) = false → (decide (k = 1) = true → (decide (n = 0) = true → P_c_sIsSymbol t ∧ (isSym t =
 true → ObsEq [] [] ∧ AV.sv (lb (decide (i = 0))) = AV.sv (lb (nodD k n t i))) ∧ (isSym t = false → ObsEq [] [] ∧ AV.sv (lb false) = AV.sv (lb (nodD k n t i)))) ∧ (decide (n = 0) =
 false → false = false ∧ ObsEq [] [] ∧ AV.sv (lb false) = AV.sv (lb (nodD k n t i)))) ∧ (decide (k = 1) = false → (decide (k = 2) = true → P_c_l1In n (-999999999 : Int) 999999999 ∧
 (decide ((-999999999 : Int) ≤ n ∧ n ≤ 999999999) = true → (decide (Array.toList (ByteArray.data t) = []) = true → ObsEq [] [] ∧ AV.sv (lb (decide (i = 0))) = AV.sv (lb (nodD k n t
 i))) ∧ (decide (Array.toList (ByteArray.data t) = []) = false → ObsEq [] [] ∧ AV.sv (lb false) = AV.sv (lb (nodD k n t i)))) ∧ (decide ((-999999999 : Int) ≤ n ∧ n ≤ 999999999) =
 false → false = false ∧ ObsEq [] [] ∧ AV.sv (lb false) = AV.sv (lb (nodD k n t i)))) ∧ (decide (k = 2) = false → (decide (k = 3) = true → P_c_l1In n 0 1 ∧ (decide (0 ≤ n ∧ n ≤ 1)
 = true → (decide (Array.toList (ByteArray.data t) = []) = true → ObsEq [] [] ∧ AV.sv (lb (decide (i = 0))) = AV.sv (lb (nodD k n t i))) ∧ (decide (Array.toList (ByteArray.data t)
 = []) = false → ObsEq [] [] ∧ AV.sv (lb false) = AV.sv (lb (nodD k n t i)))) ∧ (decide (0 ≤ n ∧ n ≤ 1) = false → false = false ∧ ObsEq [] [] ∧ AV.sv (lb false) = AV.sv (lb (nodD k
 n t i)))) ∧ (decide (k = 3) = false → (decide (k = 4) = true → (decide (n = 0) = true → P_c_sString t ∧ (isStr t = true → ObsEq [] [] ∧ AV.sv (lb (decide (i = 0))) = AV.sv (lb
 (nodD k n t i))) ∧ (isStr t = false → ObsEq [] [] ∧ AV.sv (lb false) = AV.sv (lb (nodD k n t i)))) ∧ (decide (n = 0) = false → false = false ∧ ObsEq [] [] ∧ AV.sv (lb false) =
 AV.sv (lb (nodD k n t i)))) ∧ (decide (k = 4) = false → ObsEq [] [] ∧ AV.sv (lb false) = AV.sv (lb (nodD k n t i)))))))) := by kernel_rfl
theorem c_sNode (k n : Int) (t : ByteArray) (i : Int)  : P_c_sNode k n t i := by
  refine CallOK.ofRun wide (run_c_sNode k n t i) Try.call271 Try.func271 rfl rfl rfl ?_
  with_reducible repeat' (first | apply And.intro | exact flatI | exact flatS | exact rowLens | (intro; skip) | apply obsN | apply obsC | apply obA | apply obM | apply obB | apply svA | apply tupA | apply lcA | apply lcS | apply svC | apply liC | apply lbC | apply lsC | apply vIc | apply vBc | apply vSc | apply vLc | apply mapC | apply c_l1In | apply c_sIsSymbol | apply c_sString)
  all_goals (try simp only [std] at *)
  all_goals (try (first | with_reducible apply c_l1In | with_reducible apply c_sIsSymbol | with_reducible apply c_sString | (simp only [← List.map_append]; first | with_reducible apply c_l1In | with_reducible apply c_sIsSymbol | with_reducible apply c_sString)))
  all_goals (try (first | with_reducible rfl | omega | assumption | (refine (decide_eq_true ?_).symm; assumption) | (refine (decide_eq_false ?_).symm; assumption) | (refine rowGet ?_; (first | omega | (simp only [std]; omega) | grind)) | (refine getC ?_ rfl; (first | omega | (simp only [std]; omega) | grind)) | (refine fill_step ?_ ?_; (first | omega | (simp only [std]; omega) | grind); (first | rfl | exact (Row.eq _).trans rfl)) | (refine fill_init ?_; (first | rfl | exact (Row.eq _).trans rfl)) | (show (_ : St) = _; rfl) | grind [nodD, snocI, snocS, rowSnoc]))
abbrev P_c_iNode (k : Int) (n : Int) (t : ByteArray) (i : Int) : Prop := CallOK Try.prog 272 [] [li k, li n, ls t, li i] [] (.sv (lb (nodD k n t i)))
theorem run_c_iNode (k : Int) (n : Int) (t : ByteArray) (i : Int) : aexec Try.prog (Option.getD (Func.body Try.f272) Code.skip) (entry [] [li k, li n, ls t, li i] 74) [Orc.br
 [Orc.br [Orc.fin []] [Orc.fin []]] [Orc.br [Orc.br [Orc.br [Orc.call [Mode.rd] [] (AV.sv (lb (isSym t))), Orc.fin []] [Orc.fin []]] [Orc.bool false, Orc.fin []]] [Orc.br [Orc.br
 [Orc.br [Orc.br [Orc.fin []] [Orc.fin []]] [Orc.bool false, Orc.fin []]] [Orc.bool false, Orc.bool false, Orc.fin []]] [Orc.br [Orc.br [Orc.bool true, Orc.br [Orc.fin []] [Orc.fin
 []]] [Orc.br [Orc.br [Orc.fin []] [Orc.fin []]] [Orc.bool false, Orc.fin []]]] [Orc.br [Orc.br [Orc.br [Orc.call [Mode.rd] [] (AV.sv (lb (isStr t))), Orc.fin []] [Orc.fin []]]
 [Orc.bool false, Orc.fin []]] [Orc.fin []]]]]]] (finK Try.prog [ResultVar.tmp 8] [] (AV.sv (lb (nodD k n t i)))) = ((decide (k = 0) = true → (decide (n = 0) = true → ObsEq [] [] ∧
 AV.sv (lb (decide (Array.toList (ByteArray.data t) = []))) = AV.sv (lb (nodD k n t i))) ∧ (decide (n = 0) = false → ObsEq [] [] ∧ AV.sv (lb false) = AV.sv (lb (nodD k n t i)))) ∧
 (decide (k = 0) = false → (decide (k = 1) = true → (decide (n = 0) = true → (decide (i = 0) = true → P_c_iIsSymbol t ∧ ObsEq [] [] ∧ AV.sv (lb (isSym t)) = AV.sv (lb (nodD k n t
 i))) ∧ (decide (i = 0) = false → ObsEq [] [] ∧ AV.sv (lb false) = AV.sv (lb (nodD k n t i)))) ∧ (decide (n = 0) = false → false = false ∧ ObsEq [] [] ∧ AV.sv (lb false) = AV.sv
 (lb (nodD k n t i)))) ∧ (decide (k = 1) = false → (decide (k = 2) = true → (decide ((-999999999 : Int) ≤ n) = true → (decide (n ≤ 999999999) = true → (decide (Array.toList
 (ByteArray.data t) = []) = true → ObsEq [] [] ∧ AV.sv (lb (decide (i = 0))) = AV.sv (lb (nodD k n t i))) ∧ (decide (Array.toList (ByteArray.data t) = []) = false → ObsEq [] [] ∧
 AV.sv (lb false) = AV.sv (lb (nodD k n t i)))) ∧ (decide (n ≤ 999999999) = false → false = false ∧ ObsEq [] [] ∧ AV.sv (lb false) = AV.sv (lb (nodD k n t i)))) ∧ (decide
 ((-999999999 : Int) ≤ n) = false → false = false ∧ false = false ∧ ObsEq [] [] ∧ AV.sv (lb false) = AV.sv (lb (nodD k n t i)))) ∧ (decide (k = 2) = false → (decide (k = 3) = true
 → (decide (n = 0) = true → true = true ∧ (decide (Array.toList (ByteArray.data t) = []) = true → ObsEq [] [] ∧ AV.sv (lb (decide (i = 0))) = AV.sv (lb (nodD k n t i))) ∧ (decide
 (Array.toList (ByteArray.data t) = []) = false → ObsEq [] [] ∧ AV.sv (lb false) = AV.sv (lb (nodD k n t i)))) ∧ (decide (n = 0) = false → (decide (n = 1) = true → (decide
 (Array.toList (ByteArray.data t) = []) = true → ObsEq [] [] ∧ AV.sv (lb (decide (i = 0))) = AV.sv (lb (nodD k n t i))) ∧ (decide (Array.toList (ByteArray.data t) = []) = false →
 ObsEq [] [] ∧ AV.sv (lb false) = AV.sv (lb (nodD k n t i)))) ∧ (decide (n = 1) = false → false = false ∧ ObsEq [] [] ∧ AV.sv (lb false) = AV.sv (lb (nodD k n t i))))) ∧ (decide (k
 = 3) = false → (decide (k = 4) = true → (decide (n = 0) = true → (decide (i = 0) = true → P_c_iString t ∧ ObsEq [] [] ∧ AV.sv (lb (isStr t)) = AV.sv (lb (nodD k n t i))) ∧ (decide
 (i = 0) = false → ObsEq [] [] ∧ AV.sv (lb false) = AV.sv (lb (nodD k n t i)))) ∧ (decide (n = 0) = false → false = false ∧ ObsEq [] [] ∧ AV.sv (lb false) = AV.sv (lb (nodD k n t
 i)))) ∧ (decide (k = 4) = false → ObsEq [] [] ∧ AV.sv (lb false) = AV.sv (lb (nodD k n t i)))))))) := by kernel_rfl
theorem c_iNode (k n : Int) (t : ByteArray) (i : Int)  : P_c_iNode k n t i := by
  refine CallOK.ofRun wide (run_c_iNode k n t i) Try.call272 Try.func272 rfl rfl rfl ?_
  with_reducible repeat' (first | apply And.intro | exact flatI | exact flatS | exact rowLens | (intro; skip) | apply obsN | apply obsC | apply obA | apply obM | apply obB | apply svA | apply tupA | apply lcA | apply lcS | apply svC | apply liC | apply lbC | apply lsC | apply vIc | apply vBc | apply vSc | apply vLc | apply mapC | apply c_iIsSymbol | apply c_iString)
  all_goals (try simp only [std] at *)
  all_goals (try (first | with_reducible apply c_iIsSymbol | with_reducible apply c_iString | (simp only [← List.map_append]; first | with_reducible apply c_iIsSymbol | with_reducible apply c_iString)))
  all_goals (try (first | with_reducible rfl | omega | assumption | (refine (decide_eq_true ?_).symm; assumption) | (refine (decide_eq_false ?_).symm; assumption) | (refine rowGet ?_; (first | omega | (simp only [std]; omega) | grind)) | (refine getC ?_ rfl; (first | omega | (simp only [std]; omega) | grind)) | (refine fill_step ?_ ?_; (first | omega | (simp only [std]; omega) | grind); (first | rfl | exact (Row.eq _).trans rfl)) | (refine fill_init ?_; (first | rfl | exact (Row.eq _).trans rfl)) | (show (_ : St) = _; rfl) | grind [nodD, snocI, snocS, rowSnoc]))
mutual
def sizeD : Datum → Nat
  | ⟨_, _, _, l⟩ => sizeDs l + 1
def sizeDs : List Datum → Nat
  | [] => 0
  | c :: r => sizeD c + sizeDs r
end
theorem sizeDs_eq : ∀ l, sizeDs l = sumBy sizeD l
  | [] => by simp [sizeDs, sumBy]
  | c :: r => by rw [sizeDs, sumBy, sizeDs_eq r]
theorem sizeD_eq (c : Datum) : sizeD c = sumBy sizeD c.items + 1 := by cases c; simp only [sizeD, sizeDs_eq]
mutual
def depD : Datum → Nat
  | ⟨_, _, _, l⟩ => depDs l + 1
def depDs : List Datum → Nat
  | [] => 0
  | c :: r => max (depD c) (depDs r)
end
theorem depDs_eq : ∀ l, depDs l = maxBy depD l
  | [] => by simp [depDs, maxBy]
  | c :: r => by rw [depDs, maxBy, depDs_eq r]
theorem depD_eq (c : Datum) : depD c = maxBy depD c.items + 1 := by cases c; simp only [depD, depDs_eq]
theorem depD_le : ∀ c : Datum, depD c ≤ sizeD c := by
  refine Datum.ind fun c ih => ?_
  have := maxBy_sum ih
  rw [sizeD_eq, depD_eq]; omega
mutual
def okD : Datum → Bool
  | ⟨k, n, t, l⟩ => okDs l && nodD k n t l.length
def okDs : List Datum → Bool
  | [] => true
  | c :: r => okD c && okDs r
end
theorem okDs_eq : ∀ l, okDs l = l.all okD
  | [] => by simp [okDs]
  | c :: r => by rw [okDs, okDs_eq r]; rfl
theorem okD_eq (c : Datum) : okD c = (c.items.all okD && nodD c.kind c.number c.text c.items.length) := by cases c; simp only [okD, okDs_eq]
def isDat (d : Datum) : Bool := decide (sizeD d ≤ 600) && decide (depD d ≤ 20) && okD d
mutual
def meaD : Datum → Int → Int → Bool × Int
  | ⟨k, n, t, l⟩, deep, m => if deep ≤ 20 ∧ m + 1 ≤ 600 ∧ nodD k n t l.length = true then meaDs l (deep + 1) (m + 1) else (false, m + 1)
def meaDs : List Datum → Int → Int → Bool × Int
  | [], _, m => (true, m)
  | x :: r, deep, m => if (meaD x deep m).1 then meaDs r deep (meaD x deep m).2 else (false, (meaD x deep m).2)
end
theorem meaDs_eq : ∀ l deep m, meaDs l deep m = scan (fun x m => meaD x deep m) l m
  | [], _, _ => by simp [meaDs, scan]
  | x :: r, deep, m => by simp only [meaDs, scan, meaDs_eq r]
theorem meaD_eq (c : Datum) (deep m : Int) : meaD c deep m = if deep ≤ 20 ∧ m + 1 ≤ 600 ∧ nodD c.kind c.number c.text c.items.length = true then scan (fun x m => meaD x (deep + 1) m) c.items (m + 1) else (false, m + 1) := by cases c; simp only [meaD, meaDs_eq]
theorem meaD_of : ∀ (c : Datum) (deep m : Int), m ≤ 600 → ((meaD c deep m).1 = true ↔ (m + sizeD c ≤ 600 ∧ (deep + depD c ≤ 21 ∧ okD c = true))) ∧ ((meaD c deep m).1 = true → (meaD c deep m).2 = m + sizeD c) := by
  refine Datum.ind fun c ih deep m hm => ?_
  rw [meaD_eq, sizeD_eq, depD_eq, okD_eq, Bool.and_eq_true, List.all_eq_true]
  by_cases h : deep ≤ 20 ∧ m + 1 ≤ 600 ∧ nodD c.kind c.number c.text c.items.length = true
  · rw [if_pos h]
    have h1 := scan_of (fun x m => meaD x (deep + 1) m) sizeD (fun x => deep + 1 + depD x ≤ 21 ∧ okD x = true) 600 c.items (fun x hx m hm => ih x hx (deep + 1) m hm) (m + 1) h.2.1
    have h2 := maxBy_le depD (m := (20 - deep).toNat) (L := c.items)
    constructor
    · rw [h1.1]
      constructor
      · rintro ⟨a, b⟩
        have := h2.2 fun x hx => by have := (b x hx).1; omega
        exact ⟨by omega, by omega, fun x hx => (b x hx).2, h.2.2⟩
      · rintro ⟨a, b, d, e⟩
        have := h2.1 (by omega)
        exact ⟨by omega, fun x hx => ⟨by have := this x hx; omega, d x hx⟩⟩
    · intro ht; rw [h1.2 ht]; omega
  · rw [if_neg h]
    refine ⟨⟨fun e => Bool.noConfusion e, ?_⟩, fun e => Bool.noConfusion e⟩
    rintro ⟨a, b, d, e⟩
    exact absurd ⟨by omega, by omega, e⟩ h
theorem meaD_isDat (d : Datum) : (meaD d 1 0).1 = isDat d := by
  have h := (meaD_of d 1 0 (by decide)).1
  rw [Bool.eq_iff_iff, h]
  simp only [isDat, Bool.and_eq_true, decide_eq_true_eq, and_assoc]
  constructor
  · rintro ⟨a, b, e⟩; exact ⟨by omega, by omega, e⟩
  · rintro ⟨a, b, e⟩; exact ⟨by omega, by omega, e⟩
abbrev P_c_sFewD (d : Datum) (l : Int) : Prop := CallOK Try.prog 217 [.box [vI l]] [datumA d, .one (.ptr 0 0)] [.box [vI (max (l - sizeD d) (-1))]] (.sv (lb (decide (sizeD d ≤ l))))
def Tc_sFewD_sLa (d : Datum) (l : Int) (x0 : SV) (x1 : AC) : St := St.mk (regsOf 36 [(1, AV.sv (SV.one (AC.ptr 0 0))), (2, AV.sv (SV.one (AC.ptr 1 0))), (5, AV.sv x0)]) [Ob.box
 [x1], Ob.box (vals (datumF d))] 1 
def Lc_sFewD_sLa (d : Datum) (l : Int) (k : Nat) : St := Tc_sFewD_sLa d l (li (↑k : Int)) (vI (max (l - 1 - (↑(sumBy sizeD (List.take k (Datum.items d))) : Int)) (-1 : Int))) 
def Ic_sFewD_sLa (d : Datum) (l : Int) : Nat → St → Prop := Head (Lc_sFewD_sLa d l) (fun k => List.length (Datum.items d) ≥ k) fun k => List.length (Datum.items d) - k 
def W0c_sFewD_sLa (d : Datum) (l : Int) (x0 : AC) : St := St.mk (regsOf 36 [(1, AV.sv (SV.one (AC.ptr 0 0)))]) [Ob.box [x0]] 1 
def Yc_sFewD_sLa (d : Datum) (l : Int) : List (Prop × AEx × St) := [(True, AEx.exit 0, W0c_sFewD_sLa d l (vI (max (l - (↑(sizeD d) : Int)) (-1 : Int))))]
theorem Hc_sFewD_sLa {d : Datum} {l : Int} {k : Nat} {m : Nat} (h : (fun k => List.length (Datum.items d) ≥ k) k) (hm : (fun k => List.length (Datum.items d) - k) k = m) :
 Ic_sFewD_sLa d l m (Lc_sFewD_sLa d l k) := hm ▸ Head.mk h
theorem Ec_sFewD_sLa {d : Datum} {l : Int} {k : Nat} {x0 : SV} {x1 : AC} (h0 : x0 = (li (↑k : Int))) (h1 : x1 = (vI (max (l - 1 - (↑(sumBy sizeD (List.take k (Datum.items d))) :
 Int)) (-1 : Int)))) : Tc_sFewD_sLa d l x0 x1 = Lc_sFewD_sLa d l k := by
  rw [h0, h1]
  rfl
theorem EW0c_sFewD_sLa {d : Datum} {l : Int} {x0 y0 : AC} (h0 : x0 = y0) : W0c_sFewD_sLa d l x0 = W0c_sFewD_sLa d l y0 := by rw [h0]
theorem run_c_sFewD_sLa (d : Datum) (l : Int) (k : Nat) : aexec Try.prog (loopAt Try.f217 0) (Lc_sFewD_sLa d l k) [Orc.br [Orc.br [Orc.cells (datumF (List.getD (Datum.items d) k
 default)), Orc.call [Mode.rd, Mode.ptr] [Ob.box [vI (max (max (l - 1 - (↑(sumBy sizeD (List.take k (Datum.items d))) : Int)) (-1 : Int) - (↑(sizeD (List.getD (Datum.items d) k
 default)) : Int)) (-1 : Int))]] (AV.sv (lb (decide ((↑(sizeD (List.getD (Datum.items d) k default)) : Int) ≤ max (l - 1 - (↑(sumBy sizeD (List.take k (Datum.items d))) : Int)) (-1
 : Int))))), Orc.ghost (Ghost.sel [0, 1] [1, 2, 5]), Orc.goto (List.length (Datum.items d) - (k + 1)) (Lc_sFewD_sLa d l (k + 1))] [Orc.ghost (Ghost.sel [0] [1]), Orc.out 0]]
 [Orc.bool false, Orc.ghost (Ghost.sel [0] [1]), Orc.out 0]] (loopK (Ic_sFewD_sLa d l) (Yc_sFewD_sLa d l) (List.length (Datum.items d) - k)) = (List.length (List.map datumC
 (Datum.items d)) ≤ 9223372036854775807 → (decide ((↑k : Int) < (↑(List.length (List.map datumC (Datum.items d))) : Int)) = true → (decide (0 ≤ max (l - 1 - (↑(sumBy sizeD
 (List.take k (Datum.items d))) : Int)) (-1 : Int)) = true → (0 ≤ (↑k : Int) ∧ (List.map datumC (Datum.items d))[Int.toNat (↑k : Int)]? = some (datumF (List.getD (Datum.items d) k
 default))) ∧ P_c_sFewD (List.getD (Datum.items d) k default) (max (l - 1 - (↑(sumBy sizeD (List.take k (Datum.items d))) : Int)) (-1 : Int)) ∧ rng IntKind.i64 ((↑k : Int) + 1) ∧
 List.length (Datum.items d) - (k + 1) < List.length (Datum.items d) - k ∧ Tc_sFewD_sLa d l (li ((↑k : Int) + 1)) (vI (max (max (l - 1 - (↑(sumBy sizeD (List.take k (Datum.items
 d))) : Int)) (-1 : Int) - (↑(sizeD (List.getD (Datum.items d) k default)) : Int)) (-1 : Int))) = Lc_sFewD_sLa d l (k + 1) ∧ Ic_sFewD_sLa d l (List.length (Datum.items d) - (k +
 1)) (Lc_sFewD_sLa d l (k + 1))) ∧ (decide (0 ≤ max (l - 1 - (↑(sumBy sizeD (List.take k (Datum.items d))) : Int)) (-1 : Int)) = false → True ∧ W0c_sFewD_sLa d l (vI (max (l - 1 -
 (↑(sumBy sizeD (List.take k (Datum.items d))) : Int)) (-1 : Int))) = W0c_sFewD_sLa d l (vI (max (l - (↑(sizeD d) : Int)) (-1 : Int))))) ∧ (decide ((↑k : Int) < (↑(List.length
 (List.map datumC (Datum.items d))) : Int)) = false → false = false ∧ True ∧ W0c_sFewD_sLa d l (vI (max (l - 1 - (↑(sumBy sizeD (List.take k (Datum.items d))) : Int)) (-1 : Int)))
 = W0c_sFewD_sLa d l (vI (max (l - (↑(sizeD d) : Int)) (-1 : Int))))) := by kernel_rfl
theorem Sc_sFewD_sLa (d : Datum) (l : Int) (h : 0 ≤ l ∧ l ≤ 1000000) (ih : ∀ (z : Datum), z ∈ Datum.items d → ∀ (l : Int), 0 ≤ l ∧ l ≤ 1000000 → P_c_sFewD z l)  : LoopSem Try.prog
 (loopAt Try.f217 0) (Ic_sFewD_sLa d l) (Yc_sFewD_sLa d l) := by
  refine LoopSem.ofHead wide fun k h => ⟨_, _, run_c_sFewD_sLa d l k, ?_⟩
  have g1 := sizeD_eq d
  have g2 := sumBy_takeLe sizeD d.items k
  have g3 := @sumBy_step _ _ sizeD d.items k
  with_reducible repeat' (first | apply And.intro | exact flatI | exact flatS | exact rowLens | exact ih | (intro; skip) | apply obsN | apply obsC | apply obA | apply obM | apply obB | apply svA | apply tupA | apply lcA | apply lcS | apply svC | apply liC | apply lbC | apply lsC | apply vIc | apply vBc | apply vSc | apply vLc | apply mapC | apply Hc_sFewD_sLa | apply Ec_sFewD_sLa | apply EW0c_sFewD_sLa | apply ih)
  all_goals (try simp only [std] at *)
  all_goals (try (first | with_reducible apply ih | (simp only [← List.map_append]; first | with_reducible apply ih)))
  all_goals (try (first | with_reducible rfl | omega | assumption | (refine (decide_eq_true ?_).symm; assumption) | (refine (decide_eq_false ?_).symm; assumption) | (refine rowGet ?_; (first | omega | (simp only [std]; omega) | grind)) | (refine getC ?_ rfl; (first | omega | (simp only [std]; omega) | grind)) | (refine fill_step ?_ ?_; (first | omega | (simp only [std]; omega) | grind); (first | rfl | exact (Row.eq _).trans rfl)) | (refine fill_init ?_; (first | rfl | exact (Row.eq _).trans rfl)) | (show (_ : St) = _; rfl) | grind [getD_mem', snocI, snocS, rowSnoc]))
theorem run_c_sFewD_s (d : Datum) (l : Int) : aexec Try.prog (Option.getD (Func.body Try.f217) Code.skip) (entry [Ob.box [vI l]] [datumA d, SV.one (AC.ptr 0 0)] 36) [Orc.ghost
 (Ghost.sel [0, 1] [1, 2, 5]), Orc.loop (List.length (Datum.items d) - 0) (Lc_sFewD_sLa d l 0) (Ic_sFewD_sLa d l) [(True, AEx.exit 0, W0c_sFewD_sLa d l (vI (max (l - (↑(sizeD d) :
 Int)) (-1 : Int))), [Orc.fin []])]] (finK Try.prog [ResultVar.tmp 4] [Ob.box [vI (max (l - (↑(sizeD d) : Int)) (-1 : Int))]] (AV.sv (lb (decide ((↑(sizeD d) : Int) ≤ l))))) = (rng
 IntKind.i64 (l - 1) ∧ Tc_sFewD_sLa d l (li 0) (vI (l - 1)) = Lc_sFewD_sLa d l 0 ∧ Ic_sFewD_sLa d l (List.length (Datum.items d) - 0) (Lc_sFewD_sLa d l 0) ∧ LoopSem Try.prog
 (loopAt Try.f217 0) (Ic_sFewD_sLa d l) (Yc_sFewD_sLa d l) ∧ (True → ObsEq [Ob.box [vI (max (l - (↑(sizeD d) : Int)) (-1 : Int))]] [Ob.box [vI (max (l - (↑(sizeD d) : Int)) (-1 :
 Int))]] ∧ AV.sv (lb (decide (0 ≤ max (l - (↑(sizeD d) : Int)) (-1 : Int)))) = AV.sv (lb (decide ((↑(sizeD d) : Int) ≤ l)))) ∧ True) := by kernel_rfl
theorem c_sFewD_s (d : Datum) (l : Int) (h : 0 ≤ l ∧ l ≤ 1000000) (ih : ∀ z ∈ d.items, ∀ (l : Int) (h : 0 ≤ l ∧ l ≤ 1000000), P_c_sFewD z l)  : P_c_sFewD d l := by
  refine CallOK.ofRun wide (run_c_sFewD_s d l) Try.call217 Try.func217 rfl rfl rfl ?_
  have g1 := sizeD_eq d
  have g2 : sumBy sizeD (d.items.take 0) = 0 := rfl
  with_reducible repeat' (first | apply And.intro | exact flatI | exact flatS | exact rowLens | exact ih | (intro; skip) | apply obsN | apply obsC | apply obA | apply obM | apply obB | apply svA | apply tupA | apply lcA | apply lcS | apply svC | apply liC | apply lbC | apply lsC | apply vIc | apply vBc | apply vSc | apply vLc | apply mapC | apply Hc_sFewD_sLa | apply Ec_sFewD_sLa | apply Sc_sFewD_sLa | apply EW0c_sFewD_sLa)
  all_goals (try simp only [std] at *)
  all_goals (try (first | with_reducible apply ih | (simp only [← List.map_append]; first | with_reducible apply ih)))
  all_goals (try (first | with_reducible rfl | omega | assumption | (refine (decide_eq_true ?_).symm; assumption) | (refine (decide_eq_false ?_).symm; assumption) | (refine rowGet ?_; (first | omega | (simp only [std]; omega) | grind)) | (refine getC ?_ rfl; (first | omega | (simp only [std]; omega) | grind)) | (refine fill_step ?_ ?_; (first | omega | (simp only [std]; omega) | grind); (first | rfl | exact (Row.eq _).trans rfl)) | (refine fill_init ?_; (first | rfl | exact (Row.eq _).trans rfl)) | (show (_ : St) = _; rfl) | grind [snocI, snocS, rowSnoc]))
theorem c_sFewD (d : Datum) : ∀ (l : Int) (h : 0 ≤ l ∧ l ≤ 1000000), P_c_sFewD d l := Datum.ind (P := fun d => ∀ (l : Int) (h : 0 ≤ l ∧ l ≤ 1000000), P_c_sFewD d l) (fun d ih l h => c_sFewD_s d l h ih) d
abbrev P_c_sDepD (d : Datum) : Prop := CallOK Try.prog 218 [] [datumA d] [] (.sv (li (depD d)))
def Tc_sDepD_sLa (d : Datum) (x0 : SV) (x1 : SV) : St := St.mk (regsOf 20 [(3, AV.sv x1), (7, AV.sv (ll (List.map datumC (Datum.items d)))), (8, AV.sv (li (↑(List.length (List.map
 datumC (Datum.items d))) : Int))), (9, AV.sv x0)]) [] 0 
def Lc_sDepD_sLa (d : Datum) (k : Nat) : St := Tc_sDepD_sLa d (li (↑k : Int)) (li (↑(maxBy depD (List.take k (Datum.items d))) : Int)) 
def Ic_sDepD_sLa (d : Datum) : Nat → St → Prop := Head (Lc_sDepD_sLa d) (fun k => k ≤ List.length (Datum.items d) ∧ List.length (Datum.items d) ≤ 9223372036854775807) fun k =>
 List.length (Datum.items d) - k 
def W0c_sDepD_sLa (d : Datum) (x0 : SV) : St := St.mk (regsOf 20 [(3, AV.sv x0)]) [] 0 
def Yc_sDepD_sLa (d : Datum) : List (Prop × AEx × St) := [(True, AEx.exit 0, W0c_sDepD_sLa d (li (↑(maxBy depD (Datum.items d)) : Int)))]
theorem Hc_sDepD_sLa {d : Datum} {k : Nat} {m : Nat} (h : (fun k => k ≤ List.length (Datum.items d) ∧ List.length (Datum.items d) ≤ 9223372036854775807) k) (hm : (fun k =>
 List.length (Datum.items d) - k) k = m) : Ic_sDepD_sLa d m (Lc_sDepD_sLa d k) := hm ▸ Head.mk h
theorem Ec_sDepD_sLa {d : Datum} {k : Nat} {x0 : SV} {x1 : SV} (h0 : x0 = (li (↑k : Int))) (h1 : x1 = (li (↑(maxBy depD (List.take k (Datum.items d))) : Int))) : Tc_sDepD_sLa d x0
 x1 = Lc_sDepD_sLa d k := by
  rw [h0, h1]
  rfl
theorem EW0c_sDepD_sLa {d : Datum} {x0 y0 : SV} (h0 : x0 = y0) : W0c_sDepD_sLa d x0 = W0c_sDepD_sLa d y0 := by rw [h0]
theorem run_c_sDepD_sLa (d : Datum) (k : Nat) : aexec Try.prog (loopAt Try.f218 0) (Lc_sDepD_sLa d k) [Orc.br [Orc.cells (datumF (List.getD (Datum.items d) k default)), Orc.call
 [Mode.rd] [] (AV.sv (li (↑(depD (List.getD (Datum.items d) k default)) : Int))), Orc.ghost (Ghost.sel [] [3, 7, 8, 9]), Orc.goto (List.length (Datum.items d) - (k + 1))
 (Lc_sDepD_sLa d (k + 1))] [Orc.ghost (Ghost.sel [] [3]), Orc.out 0]] (loopK (Ic_sDepD_sLa d) (Yc_sDepD_sLa d) (List.length (Datum.items d) - k)) = ((decide ((↑k : Int) <
 (↑(List.length (List.map datumC (Datum.items d))) : Int)) = true → (0 ≤ (↑k : Int) ∧ (List.map datumC (Datum.items d))[Int.toNat (↑k : Int)]? = some (datumF (List.getD
 (Datum.items d) k default))) ∧ P_c_sDepD (List.getD (Datum.items d) k default) ∧ rng IntKind.i64 ((↑k : Int) + 1) ∧ List.length (Datum.items d) - (k + 1) < List.length
 (Datum.items d) - k ∧ Tc_sDepD_sLa d (li ((↑k : Int) + 1)) (li (max (↑(maxBy depD (List.take k (Datum.items d))) : Int) (↑(depD (List.getD (Datum.items d) k default)) : Int))) =
 Lc_sDepD_sLa d (k + 1) ∧ Ic_sDepD_sLa d (List.length (Datum.items d) - (k + 1)) (Lc_sDepD_sLa d (k + 1))) ∧ (decide ((↑k : Int) < (↑(List.length (List.map datumC (Datum.items d)))
 : Int)) = false → True ∧ W0c_sDepD_sLa d (li (↑(maxBy depD (List.take k (Datum.items d))) : Int)) = W0c_sDepD_sLa d (li (↑(maxBy depD (Datum.items d)) : Int)))) := by kernel_rfl
theorem Sc_sDepD_sLa (d : Datum) (h : sizeD d ≤ 2147483647) (ih : ∀ (z : Datum), z ∈ Datum.items d → sizeD z ≤ 2147483647 → P_c_sDepD z)  : LoopSem Try.prog (loopAt Try.f218 0)
 (Ic_sDepD_sLa d) (Yc_sDepD_sLa d) := by
  refine LoopSem.ofHead wide fun k h => ⟨_, _, run_c_sDepD_sLa d k, ?_⟩
  have g1 := sizeD_eq d
  have g2 := @sumBy_mem _ sizeD d.items (d.items.getD k default)
  with_reducible repeat' (first | apply And.intro | exact flatI | exact flatS | exact rowLens | exact ih | (intro; skip) | apply obsN | apply obsC | apply obA | apply obM | apply obB | apply svA | apply tupA | apply lcA | apply lcS | apply svC | apply liC | apply lbC | apply lsC | apply vIc | apply vBc | apply vSc | apply vLc | apply mapC | apply Hc_sDepD_sLa | apply Ec_sDepD_sLa | apply EW0c_sDepD_sLa | apply ih)
  all_goals (try simp only [std] at *)
  all_goals (try (first | with_reducible apply ih | (simp only [← List.map_append]; first | with_reducible apply ih)))
  all_goals (try (first | with_reducible rfl | omega | assumption | (refine (decide_eq_true ?_).symm; assumption) | (refine (decide_eq_false ?_).symm; assumption) | (refine rowGet ?_; (first | omega | (simp only [std]; omega) | grind)) | (refine getC ?_ rfl; (first | omega | (simp only [std]; omega) | grind)) | (refine fill_step ?_ ?_; (first | omega | (simp only [std]; omega) | grind); (first | rfl | exact (Row.eq _).trans rfl)) | (refine fill_init ?_; (first | rfl | exact (Row.eq _).trans rfl)) | (show (_ : St) = _; rfl) | grind [maxBy_step, getD_mem', snocI, snocS, rowSnoc]))
theorem run_c_sDepD_s (d : Datum) : aexec Try.prog (Option.getD (Func.body Try.f218) Code.skip) (entry [] [datumA d] 20) [Orc.ghost (Ghost.sel [] [3, 7, 8, 9]), Orc.loop
 (List.length (Datum.items d) - 0) (Lc_sDepD_sLa d 0) (Ic_sDepD_sLa d) [(True, AEx.exit 0, W0c_sDepD_sLa d (li (↑(maxBy depD (Datum.items d)) : Int)), [Orc.fin []])]] (finK
 Try.prog [ResultVar.tmp 2] [] (AV.sv (li (↑(depD d) : Int)))) = (List.length (List.map datumC (Datum.items d)) ≤ 9223372036854775807 → Tc_sDepD_sLa d (li 0) (li 0) = Lc_sDepD_sLa
 d 0 ∧ Ic_sDepD_sLa d (List.length (Datum.items d) - 0) (Lc_sDepD_sLa d 0) ∧ LoopSem Try.prog (loopAt Try.f218 0) (Ic_sDepD_sLa d) (Yc_sDepD_sLa d) ∧ (True → rng IntKind.i64
 ((↑(maxBy depD (Datum.items d)) : Int) + 1) ∧ ObsEq [] [] ∧ AV.sv (li ((↑(maxBy depD (Datum.items d)) : Int) + 1)) = AV.sv (li (↑(depD d) : Int))) ∧ True) := by kernel_rfl
theorem c_sDepD_s (d : Datum) (h : sizeD d ≤ 2147483647) (ih : ∀ z ∈ d.items, ∀ (h : sizeD z ≤ 2147483647), P_c_sDepD z)  : P_c_sDepD d := by
  refine CallOK.ofRun wide (run_c_sDepD_s d) Try.call218 Try.func218 rfl rfl rfl ?_
  have h1 := depD_le d
  have g2 : maxBy depD (d.items.take 0) = 0 := rfl
  with_reducible repeat' (first | apply And.intro | exact flatI | exact flatS | exact rowLens | exact ih | (intro; skip) | apply obsN | apply obsC | apply obA | apply obM | apply obB | apply svA | apply tupA | apply lcA | apply lcS | apply svC | apply liC | apply lbC | apply lsC | apply vIc | apply vBc | apply vSc | apply vLc | apply mapC | apply Hc_sDepD_sLa | apply Ec_sDepD_sLa | apply Sc_sDepD_sLa | apply EW0c_sDepD_sLa)
  all_goals (try simp only [std] at *)
  all_goals (try (first | with_reducible apply ih | (simp only [← List.map_append]; first | with_reducible apply ih)))
  all_goals (try (first | with_reducible rfl | omega | assumption | (refine (decide_eq_true ?_).symm; assumption) | (refine (decide_eq_false ?_).symm; assumption) | (refine rowGet ?_; (first | omega | (simp only [std]; omega) | grind)) | (refine getC ?_ rfl; (first | omega | (simp only [std]; omega) | grind)) | (refine fill_step ?_ ?_; (first | omega | (simp only [std]; omega) | grind); (first | rfl | exact (Row.eq _).trans rfl)) | (refine fill_init ?_; (first | rfl | exact (Row.eq _).trans rfl)) | (show (_ : St) = _; rfl) | grind [depD_eq, snocI, snocS, rowSnoc]))
theorem c_sDepD (d : Datum) : ∀ (h : sizeD d ≤ 2147483647), P_c_sDepD d := Datum.ind (P := fun d => ∀ (h : sizeD d ≤ 2147483647), P_c_sDepD d) (fun d ih h => c_sDepD_s d h ih) d
abbrev P_c_sOkD (d : Datum) : Prop := CallOK Try.prog 219 [] [datumA d] [] (.sv (lb (okD d)))
def Tc_sOkD_sLa (d : Datum) (x0 : SV) : St := St.mk (regsOf 26 [(1, AV.sv (SV.one (AC.ptr 0 0))), (6, AV.sv (ll (List.map datumC (Datum.items d)))), (7, AV.sv (li (↑(List.length
 (List.map datumC (Datum.items d))) : Int))), (8, AV.sv x0)]) [Ob.box (vals (datumF d))] 0 
def Lc_sOkD_sLa (d : Datum) (k : Nat) : St := Tc_sOkD_sLa d (li (↑k : Int)) 
def Ic_sOkD_sLa (d : Datum) : Nat → St → Prop := Head (Lc_sOkD_sLa d) (fun k => k ≤ List.length (Datum.items d) ∧ List.length (Datum.items d) ≤ 9223372036854775807 ∧ List.all
 (List.take k (Datum.items d)) okD = true) fun k => List.length (Datum.items d) - k 
def W0c_sOkD_sLa (d : Datum) : St := St.mk (regsOf 26 [(1, AV.sv (SV.one (AC.ptr 0 0)))]) [Ob.box (vals (datumF d))] 0 
def W1c_sOkD_sLa (d : Datum) (x0 : SV) : St := St.mk (regsOf 26 [(2, AV.sv x0)]) [] 0 
def Yc_sOkD_sLa (d : Datum) : List (Prop × AEx × St) := [(List.all (Datum.items d) okD = true, AEx.exit 0, W0c_sOkD_sLa d), (List.all (Datum.items d) okD = false, AEx.ret,
 W1c_sOkD_sLa d (lb false))]
theorem Hc_sOkD_sLa {d : Datum} {k : Nat} {m : Nat} (h : (fun k => k ≤ List.length (Datum.items d) ∧ List.length (Datum.items d) ≤ 9223372036854775807 ∧ List.all (List.take k
 (Datum.items d)) okD = true) k) (hm : (fun k => List.length (Datum.items d) - k) k = m) : Ic_sOkD_sLa d m (Lc_sOkD_sLa d k) := hm ▸ Head.mk h
theorem Ec_sOkD_sLa {d : Datum} {k : Nat} {x0 : SV} (h0 : x0 = (li (↑k : Int))) : Tc_sOkD_sLa d x0 = Lc_sOkD_sLa d k := by
  rw [h0]
  rfl
theorem EW1c_sOkD_sLa {d : Datum} {x0 y0 : SV} (h0 : x0 = y0) : W1c_sOkD_sLa d x0 = W1c_sOkD_sLa d y0 := by rw [h0]
theorem run_c_sOkD_sLa (d : Datum) (k : Nat) : aexec Try.prog (loopAt Try.f219 0) (Lc_sOkD_sLa d k) [Orc.br [Orc.cells (datumF (List.getD (Datum.items d) k default)), Orc.call
 [Mode.rd] [] (AV.sv (lb (okD (List.getD (Datum.items d) k default)))), Orc.br [Orc.ghost (Ghost.sel [] [2]), Orc.out 1] [Orc.ghost (Ghost.sel [0] [1, 6, 7, 8]), Orc.goto
 (List.length (Datum.items d) - (k + 1)) (Lc_sOkD_sLa d (k + 1))]] [Orc.ghost (Ghost.sel [0] [1]), Orc.out 0]] (loopK (Ic_sOkD_sLa d) (Yc_sOkD_sLa d) (List.length (Datum.items d) -
 k)) = ((decide ((↑k : Int) < (↑(List.length (List.map datumC (Datum.items d))) : Int)) = true → (0 ≤ (↑k : Int) ∧ (List.map datumC (Datum.items d))[Int.toNat (↑k : Int)]? = some
 (datumF (List.getD (Datum.items d) k default))) ∧ P_c_sOkD (List.getD (Datum.items d) k default) ∧ ((!okD (List.getD (Datum.items d) k default)) = true → List.all (Datum.items d)
 okD = false ∧ W1c_sOkD_sLa d (lb false) = W1c_sOkD_sLa d (lb false)) ∧ ((!okD (List.getD (Datum.items d) k default)) = false → rng IntKind.i64 ((↑k : Int) + 1) ∧ List.length
 (Datum.items d) - (k + 1) < List.length (Datum.items d) - k ∧ Tc_sOkD_sLa d (li ((↑k : Int) + 1)) = Lc_sOkD_sLa d (k + 1) ∧ Ic_sOkD_sLa d (List.length (Datum.items d) - (k + 1))
 (Lc_sOkD_sLa d (k + 1)))) ∧ (decide ((↑k : Int) < (↑(List.length (List.map datumC (Datum.items d))) : Int)) = false → List.all (Datum.items d) okD = true ∧ W0c_sOkD_sLa d =
 W0c_sOkD_sLa d)) := by kernel_rfl
theorem Sc_sOkD_sLa (d : Datum) (ih : ∀ (z : Datum), z ∈ Datum.items d → P_c_sOkD z)  : LoopSem Try.prog (loopAt Try.f219 0) (Ic_sOkD_sLa d) (Yc_sOkD_sLa d) := by
  refine LoopSem.ofHead wide fun k h => ⟨_, _, run_c_sOkD_sLa d k, ?_⟩
  with_reducible repeat' (first | apply And.intro | exact flatI | exact flatS | exact rowLens | exact ih | (intro; skip) | apply obsN | apply obsC | apply obA | apply obM | apply obB | apply svA | apply tupA | apply lcA | apply lcS | apply svC | apply liC | apply lbC | apply lsC | apply vIc | apply vBc | apply vSc | apply vLc | apply mapC | apply Hc_sOkD_sLa | apply Ec_sOkD_sLa | apply EW1c_sOkD_sLa | apply c_sNode | apply ih)
  all_goals (try simp only [std] at *)
  all_goals (try (first | with_reducible apply c_sNode | with_reducible apply ih | (simp only [← List.map_append]; first | with_reducible apply c_sNode | with_reducible apply ih)))
  all_goals (try (first | with_reducible rfl | omega | assumption | (refine (decide_eq_true ?_).symm; assumption) | (refine (decide_eq_false ?_).symm; assumption) | (refine rowGet ?_; (first | omega | (simp only [std]; omega) | grind)) | (refine getC ?_ rfl; (first | omega | (simp only [std]; omega) | grind)) | (refine fill_step ?_ ?_; (first | omega | (simp only [std]; omega) | grind); (first | rfl | exact (Row.eq _).trans rfl)) | (refine fill_init ?_; (first | rfl | exact (Row.eq _).trans rfl)) | (show (_ : St) = _; rfl) | grind [take_get, getD_mem', snocI, snocS, rowSnoc]))
theorem run_c_sOkD_s (d : Datum) : aexec Try.prog (Option.getD (Func.body Try.f219) Code.skip) (entry [] [datumA d] 26) [Orc.ghost (Ghost.sel [0] [1, 6, 7, 8]), Orc.loop
 (List.length (Datum.items d) - 0) (Lc_sOkD_sLa d 0) (Ic_sOkD_sLa d) [(List.all (Datum.items d) okD = true, AEx.exit 0, W0c_sOkD_sLa d, [Orc.call [Mode.rd, Mode.rd, Mode.rd,
 Mode.rd] [] (AV.sv (lb (nodD (Datum.kind d) (Datum.number d) (Datum.text d) (↑(List.length (List.map datumC (Datum.items d))) : Int)))), Orc.fin []]), (List.all (Datum.items d)
 okD = false, AEx.ret, W1c_sOkD_sLa d (lb false), [Orc.fin []])]] (finK Try.prog [ResultVar.tmp 2] [] (AV.sv (lb (okD d)))) = (List.length (List.map datumC (Datum.items d)) ≤
 9223372036854775807 → Tc_sOkD_sLa d (li 0) = Lc_sOkD_sLa d 0 ∧ Ic_sOkD_sLa d (List.length (Datum.items d) - 0) (Lc_sOkD_sLa d 0) ∧ LoopSem Try.prog (loopAt Try.f219 0)
 (Ic_sOkD_sLa d) (Yc_sOkD_sLa d) ∧ (List.all (Datum.items d) okD = true → List.length (List.map datumC (Datum.items d)) ≤ 9223372036854775807 → P_c_sNode (Datum.kind d)
 (Datum.number d) (Datum.text d) (↑(List.length (List.map datumC (Datum.items d))) : Int) ∧ ObsEq [] [] ∧ AV.sv (lb (nodD (Datum.kind d) (Datum.number d) (Datum.text d)
 (↑(List.length (List.map datumC (Datum.items d))) : Int))) = AV.sv (lb (okD d))) ∧ (List.all (Datum.items d) okD = false → ObsEq [] [] ∧ AV.sv (lb false) = AV.sv (lb (okD d))) ∧
 True) := by kernel_rfl
theorem c_sOkD_s (d : Datum) (ih : ∀ z ∈ d.items, P_c_sOkD z)  : P_c_sOkD d := by
  refine CallOK.ofRun wide (run_c_sOkD_s d) Try.call219 Try.func219 rfl rfl rfl ?_
  with_reducible repeat' (first | apply And.intro | exact flatI | exact flatS | exact rowLens | exact ih | (intro; skip) | apply obsN | apply obsC | apply obA | apply obM | apply obB | apply svA | apply tupA | apply lcA | apply lcS | apply svC | apply liC | apply lbC | apply lsC | apply vIc | apply vBc | apply vSc | apply vLc | apply mapC | apply Hc_sOkD_sLa | apply Ec_sOkD_sLa | apply Sc_sOkD_sLa | apply EW1c_sOkD_sLa | apply c_sNode)
  all_goals (try simp only [std] at *)
  all_goals (try (first | with_reducible apply c_sNode | with_reducible apply ih | (simp only [← List.map_append]; first | with_reducible apply c_sNode | with_reducible apply ih)))
  all_goals (try (first | with_reducible rfl | omega | assumption | (refine (decide_eq_true ?_).symm; assumption) | (refine (decide_eq_false ?_).symm; assumption) | (refine rowGet ?_; (first | omega | (simp only [std]; omega) | grind)) | (refine getC ?_ rfl; (first | omega | (simp only [std]; omega) | grind)) | (refine fill_step ?_ ?_; (first | omega | (simp only [std]; omega) | grind); (first | rfl | exact (Row.eq _).trans rfl)) | (refine fill_init ?_; (first | rfl | exact (Row.eq _).trans rfl)) | (show (_ : St) = _; rfl) | grind [okD_eq, snocI, snocS, rowSnoc]))
theorem c_sOkD (d : Datum) : P_c_sOkD d := Datum.ind (P := fun d => P_c_sOkD d) (fun d ih => c_sOkD_s d ih) d
abbrev P_c_sIsDatum (d : Datum) : Prop := CallOK Try.prog 122 [] [datumA d] [] (.sv (lb (isDat d)))
theorem run_c_sIsDatum (d : Datum) : aexec Try.prog (Option.getD (Func.body Try.f122) Code.skip) (entry [] [datumA d] 15) [Orc.call [Mode.rd, Mode.ptr] [Ob.box [vI (max (600 -
 (↑(sizeD d) : Int)) (-1 : Int))]] (AV.sv (lb (decide ((↑(sizeD d) : Int) ≤ 600)))), Orc.br [Orc.call [Mode.rd] [] (AV.sv (li (↑(depD d) : Int))), Orc.br [Orc.call [Mode.rd] []
 (AV.sv (lb (okD d))), Orc.fin []] [Orc.fin []]] [Orc.bool false, Orc.fin []]] (finK Try.prog [ResultVar.tmp 2] [] (AV.sv (lb (isDat d)))) = (P_c_sFewD d 600 ∧ (decide ((↑(sizeD d)
 : Int) ≤ 600) = true → P_c_sDepD d ∧ (decide ((↑(depD d) : Int) ≤ 20) = true → P_c_sOkD d ∧ ObsEq [] [] ∧ AV.sv (lb (okD d)) = AV.sv (lb (isDat d))) ∧ (decide ((↑(depD d) : Int) ≤
 20) = false → ObsEq [] [] ∧ AV.sv (lb false) = AV.sv (lb (isDat d)))) ∧ (decide ((↑(sizeD d) : Int) ≤ 600) = false → false = false ∧ ObsEq [] [] ∧ AV.sv (lb false) = AV.sv (lb
 (isDat d)))) := by kernel_rfl
theorem c_sIsDatum (d : Datum)  : P_c_sIsDatum d := by
  refine CallOK.ofRun wide (run_c_sIsDatum d) Try.call122 Try.func122 rfl rfl rfl ?_
  with_reducible repeat' (first | apply And.intro | exact flatI | exact flatS | exact rowLens | (intro; skip) | apply obsN | apply obsC | apply obA | apply obM | apply obB | apply svA | apply tupA | apply lcA | apply lcS | apply svC | apply liC | apply lbC | apply lsC | apply vIc | apply vBc | apply vSc | apply vLc | apply mapC | apply c_sFewD | apply c_sDepD | apply c_sOkD)
  all_goals (try simp only [std] at *)
  all_goals (try (first | with_reducible apply c_sFewD | with_reducible apply c_sDepD | with_reducible apply c_sOkD | (simp only [← List.map_append]; first | with_reducible apply c_sFewD | with_reducible apply c_sDepD | with_reducible apply c_sOkD)))
  all_goals (try (first | with_reducible rfl | omega | assumption | (refine (decide_eq_true ?_).symm; assumption) | (refine (decide_eq_false ?_).symm; assumption) | (refine rowGet ?_; (first | omega | (simp only [std]; omega) | grind)) | (refine getC ?_ rfl; (first | omega | (simp only [std]; omega) | grind)) | (refine fill_step ?_ ?_; (first | omega | (simp only [std]; omega) | grind); (first | rfl | exact (Row.eq _).trans rfl)) | (refine fill_init ?_; (first | rfl | exact (Row.eq _).trans rfl)) | (show (_ : St) = _; rfl) | grind [isDat, snocI, snocS, rowSnoc]))
abbrev P_c_iMeaD (d : Datum) (deep : Int) (q : Int) : Prop := CallOK Try.prog 224 [.box [vI q]] [datumA d, li deep, .one (.ptr 0 0)] [.box [vI (meaD d deep q).2]] (.sv (lb (meaD d deep q).1))
def Tc_iMeaD_sLa (d : Datum) (deep : Int) (q : Int) (x0 : SV) (x1 : AC) : St := St.mk (regsOf 49 [(1, AV.sv (li deep)), (2, AV.sv (SV.one (AC.ptr 0 0))), (36, AV.sv (ll (List.map
 datumC (Datum.items d)))), (37, AV.sv (li (↑(List.length (List.map datumC (Datum.items d))) : Int))), (38, AV.sv x0)]) [Ob.box [x1]] 1 
def Lc_iMeaD_sLa (d : Datum) (deep : Int) (q : Int) (k : Nat) : St := Tc_iMeaD_sLa d deep q (li (↑k : Int)) (vI (Prod.snd (scan (fun x m => meaD x (deep + 1) m) (List.take k
 (Datum.items d)) (q + 1)))) 
def Ic_iMeaD_sLa (d : Datum) (deep : Int) (q : Int) : Nat → St → Prop := Head (Lc_iMeaD_sLa d deep q) (fun k => k ≤ List.length (Datum.items d) ∧ List.length (Datum.items d) ≤
 9223372036854775807 ∧ deep ≤ 20 ∧ Prod.fst (scan (fun x m => meaD x (deep + 1) m) (List.take k (Datum.items d)) (q + 1)) = true ∧ q ≤ Prod.snd (scan (fun x m => meaD x (deep + 1)
 m) (List.take k (Datum.items d)) (q + 1)) ∧ Prod.snd (scan (fun x m => meaD x (deep + 1) m) (List.take k (Datum.items d)) (q + 1)) ≤ 600) fun k => List.length (Datum.items d) - k 
def W0c_iMeaD_sLa (d : Datum) (deep : Int) (q : Int) (x0 : AC) : St := St.mk (regsOf 49 []) [Ob.box [x0]] 1 
def W1c_iMeaD_sLa (d : Datum) (deep : Int) (q : Int) (x0 : SV) (x1 : AC) : St := St.mk (regsOf 49 [(6, AV.sv x0)]) [Ob.box [x1]] 1 
def Yc_iMeaD_sLa (d : Datum) (deep : Int) (q : Int) : List (Prop × AEx × St) := [(Prod.fst (scan (fun x m => meaD x (deep + 1) m) (Datum.items d) (q + 1)) = true, AEx.exit 0,
 W0c_iMeaD_sLa d deep q (vI (Prod.snd (scan (fun x m => meaD x (deep + 1) m) (Datum.items d) (q + 1))))), (Prod.fst (scan (fun x m => meaD x (deep + 1) m) (Datum.items d) (q + 1))
 = false, AEx.ret, W1c_iMeaD_sLa d deep q (lb false) (vI (Prod.snd (scan (fun x m => meaD x (deep + 1) m) (Datum.items d) (q + 1)))))]
theorem Hc_iMeaD_sLa {d : Datum} {deep : Int} {q : Int} {k : Nat} {m : Nat} (h : (fun k => k ≤ List.length (Datum.items d) ∧ List.length (Datum.items d) ≤ 9223372036854775807 ∧
 deep ≤ 20 ∧ Prod.fst (scan (fun x m => meaD x (deep + 1) m) (List.take k (Datum.items d)) (q + 1)) = true ∧ q ≤ Prod.snd (scan (fun x m => meaD x (deep + 1) m) (List.take k
 (Datum.items d)) (q + 1)) ∧ Prod.snd (scan (fun x m => meaD x (deep + 1) m) (List.take k (Datum.items d)) (q + 1)) ≤ 600) k) (hm : (fun k => List.length (Datum.items d) - k) k =
 m) : Ic_iMeaD_sLa d deep q m (Lc_iMeaD_sLa d deep q k) := hm ▸ Head.mk h
theorem Ec_iMeaD_sLa {d : Datum} {deep : Int} {q : Int} {k : Nat} {x0 : SV} {x1 : AC} (h0 : x0 = (li (↑k : Int))) (h1 : x1 = (vI (Prod.snd (scan (fun x m => meaD x (deep + 1) m)
 (List.take k (Datum.items d)) (q + 1))))) : Tc_iMeaD_sLa d deep q x0 x1 = Lc_iMeaD_sLa d deep q k := by
  rw [h0, h1]
  rfl
theorem EW0c_iMeaD_sLa {d : Datum} {deep : Int} {q : Int} {x0 y0 : AC} (h0 : x0 = y0) : W0c_iMeaD_sLa d deep q x0 = W0c_iMeaD_sLa d deep q y0 := by rw [h0]
theorem EW1c_iMeaD_sLa {d : Datum} {deep : Int} {q : Int} {x0 y0 : SV} {x1 y1 : AC} (h0 : x0 = y0) (h1 : x1 = y1) : W1c_iMeaD_sLa d deep q x0 x1 = W1c_iMeaD_sLa d deep q y0 y1 :=
 by rw [h0, h1]
theorem run_c_iMeaD_sLa (d : Datum) (deep : Int) (q : Int) (k : Nat) : aexec Try.prog (loopAt Try.f224 0) (Lc_iMeaD_sLa d deep q k) [Orc.br [Orc.cells (datumF (List.getD
 (Datum.items d) k default)), Orc.call [Mode.rd, Mode.rd, Mode.ptr] [Ob.box [vI (Prod.snd (meaD (List.getD (Datum.items d) k default) (deep + 1) (Prod.snd (scan (fun x m => meaD x
 (deep + 1) m) (List.take k (Datum.items d)) (q + 1)))))]] (AV.sv (lb (Prod.fst (meaD (List.getD (Datum.items d) k default) (deep + 1) (Prod.snd (scan (fun x m => meaD x (deep + 1)
 m) (List.take k (Datum.items d)) (q + 1))))))), Orc.br [Orc.ghost (Ghost.sel [0] [6]), Orc.out 1] [Orc.ghost (Ghost.sel [0] [1, 2, 36, 37, 38]), Orc.goto (List.length (Datum.items
 d) - (k + 1)) (Lc_iMeaD_sLa d deep q (k + 1))]] [Orc.ghost (Ghost.sel [0] []), Orc.out 0]] (loopK (Ic_iMeaD_sLa d deep q) (Yc_iMeaD_sLa d deep q) (List.length (Datum.items d) -
 k)) = ((decide ((↑k : Int) < (↑(List.length (List.map datumC (Datum.items d))) : Int)) = true → (0 ≤ (↑k : Int) ∧ (List.map datumC (Datum.items d))[Int.toNat (↑k : Int)]? = some
 (datumF (List.getD (Datum.items d) k default))) ∧ rng IntKind.i64 (deep + 1) ∧ P_c_iMeaD (List.getD (Datum.items d) k default) (deep + 1) (Prod.snd (scan (fun x m => meaD x (deep
 + 1) m) (List.take k (Datum.items d)) (q + 1))) ∧ ((!Prod.fst (meaD (List.getD (Datum.items d) k default) (deep + 1) (Prod.snd (scan (fun x m => meaD x (deep + 1) m) (List.take k
 (Datum.items d)) (q + 1))))) = true → Prod.fst (scan (fun x m => meaD x (deep + 1) m) (Datum.items d) (q + 1)) = false ∧ W1c_iMeaD_sLa d deep q (lb false) (vI (Prod.snd (meaD
 (List.getD (Datum.items d) k default) (deep + 1) (Prod.snd (scan (fun x m => meaD x (deep + 1) m) (List.take k (Datum.items d)) (q + 1)))))) = W1c_iMeaD_sLa d deep q (lb false)
 (vI (Prod.snd (scan (fun x m => meaD x (deep + 1) m) (Datum.items d) (q + 1))))) ∧ ((!Prod.fst (meaD (List.getD (Datum.items d) k default) (deep + 1) (Prod.snd (scan (fun x m =>
 meaD x (deep + 1) m) (List.take k (Datum.items d)) (q + 1))))) = false → rng IntKind.i64 ((↑k : Int) + 1) ∧ List.length (Datum.items d) - (k + 1) < List.length (Datum.items d) - k
 ∧ Tc_iMeaD_sLa d deep q (li ((↑k : Int) + 1)) (vI (Prod.snd (meaD (List.getD (Datum.items d) k default) (deep + 1) (Prod.snd (scan (fun x m => meaD x (deep + 1) m) (List.take k
 (Datum.items d)) (q + 1)))))) = Lc_iMeaD_sLa d deep q (k + 1) ∧ Ic_iMeaD_sLa d deep q (List.length (Datum.items d) - (k + 1)) (Lc_iMeaD_sLa d deep q (k + 1)))) ∧ (decide ((↑k :
 Int) < (↑(List.length (List.map datumC (Datum.items d))) : Int)) = false → Prod.fst (scan (fun x m => meaD x (deep + 1) m) (Datum.items d) (q + 1)) = true ∧ W0c_iMeaD_sLa d deep q
 (vI (Prod.snd (scan (fun x m => meaD x (deep + 1) m) (List.take k (Datum.items d)) (q + 1)))) = W0c_iMeaD_sLa d deep q (vI (Prod.snd (scan (fun x m => meaD x (deep + 1) m)
 (Datum.items d) (q + 1)))))) := by kernel_rfl
theorem Sc_iMeaD_sLa (d : Datum) (deep : Int) (q : Int) (h : 0 ≤ deep ∧ deep ≤ 21 ∧ 0 ≤ q ∧ q ≤ 600) (ih : ∀ (z : Datum), z ∈ Datum.items d → ∀ (deep q : Int), 0 ≤ deep ∧ deep ≤ 21
 ∧ 0 ≤ q ∧ q ≤ 600 → P_c_iMeaD z deep q)  : LoopSem Try.prog (loopAt Try.f224 0) (Ic_iMeaD_sLa d deep q) (Yc_iMeaD_sLa d deep q) := by
  refine LoopSem.ofHead wide fun k h => ⟨_, _, run_c_iMeaD_sLa d deep q k, ?_⟩
  have g1 := fun x m => meaD_of x (deep + 1) m
  with_reducible repeat' (first | apply And.intro | exact flatI | exact flatS | exact rowLens | exact ih | (intro; skip) | apply obsN | apply obsC | apply obA | apply obM | apply obB | apply svA | apply tupA | apply lcA | apply lcS | apply svC | apply liC | apply lbC | apply lsC | apply vIc | apply vBc | apply vSc | apply vLc | apply mapC | apply Hc_iMeaD_sLa | apply Ec_iMeaD_sLa | apply EW0c_iMeaD_sLa | apply EW1c_iMeaD_sLa | apply c_iNode | apply ih)
  all_goals (try simp only [std] at *)
  all_goals (try (first | with_reducible apply c_iNode | with_reducible apply ih | (simp only [← List.map_append]; first | with_reducible apply c_iNode | with_reducible apply ih)))
  all_goals (try (first | with_reducible rfl | omega | assumption | (refine (decide_eq_true ?_).symm; assumption) | (refine (decide_eq_false ?_).symm; assumption) | (refine rowGet ?_; (first | omega | (simp only [std]; omega) | grind)) | (refine getC ?_ rfl; (first | omega | (simp only [std]; omega) | grind)) | (refine fill_step ?_ ?_; (first | omega | (simp only [std]; omega) | grind); (first | rfl | exact (Row.eq _).trans rfl)) | (refine fill_init ?_; (first | rfl | exact (Row.eq _).trans rfl)) | (show (_ : St) = _; rfl) | grind [scan_step, scan_stop, getD_mem', snocI, snocS, rowSnoc]))
theorem run_c_iMeaD_s (d : Datum) (deep : Int) (q : Int) : aexec Try.prog (Option.getD (Func.body Try.f224) Code.skip) (entry [Ob.box [vI q]] [datumA d, li deep, SV.one (AC.ptr 0
 0)] 49) [Orc.br [Orc.bool true, Orc.bool true, Orc.fin []] [Orc.br [Orc.bool true, Orc.fin []] [Orc.call [Mode.rd, Mode.rd, Mode.rd, Mode.rd] [] (AV.sv (lb (nodD (Datum.kind d)
 (Datum.number d) (Datum.text d) (↑(List.length (List.map datumC (Datum.items d))) : Int)))), Orc.br [Orc.fin []] [Orc.ghost (Ghost.sel [0] [1, 2, 36, 37, 38]), Orc.loop
 (List.length (Datum.items d) - 0) (Lc_iMeaD_sLa d deep q 0) (Ic_iMeaD_sLa d deep q) [(Prod.fst (scan (fun x m => meaD x (deep + 1) m) (Datum.items d) (q + 1)) = true, AEx.exit 0,
 W0c_iMeaD_sLa d deep q (vI (Prod.snd (scan (fun x m => meaD x (deep + 1) m) (Datum.items d) (q + 1)))), [Orc.fin []]), (Prod.fst (scan (fun x m => meaD x (deep + 1) m)
 (Datum.items d) (q + 1)) = false, AEx.ret, W1c_iMeaD_sLa d deep q (lb false) (vI (Prod.snd (scan (fun x m => meaD x (deep + 1) m) (Datum.items d) (q + 1)))), [Orc.fin []])]]]]]
 (finK Try.prog [ResultVar.tmp 6] [Ob.box [vI (Prod.snd (meaD d deep q))]] (AV.sv (lb (Prod.fst (meaD d deep q))))) = (rng IntKind.i64 (q + 1) ∧ (decide (20 < deep) = true → true =
 true ∧ true = true ∧ ObsEq [Ob.box [vI (q + 1)]] [Ob.box [vI (Prod.snd (meaD d deep q))]] ∧ AV.sv (lb false) = AV.sv (lb (Prod.fst (meaD d deep q)))) ∧ (decide (20 < deep) = false
 → (decide (600 < q + 1) = true → true = true ∧ ObsEq [Ob.box [vI (q + 1)]] [Ob.box [vI (Prod.snd (meaD d deep q))]] ∧ AV.sv (lb false) = AV.sv (lb (Prod.fst (meaD d deep q)))) ∧
 (decide (600 < q + 1) = false → List.length (List.map datumC (Datum.items d)) ≤ 9223372036854775807 → P_c_iNode (Datum.kind d) (Datum.number d) (Datum.text d) (↑(List.length
 (List.map datumC (Datum.items d))) : Int) ∧ ((!nodD (Datum.kind d) (Datum.number d) (Datum.text d) (↑(List.length (List.map datumC (Datum.items d))) : Int)) = true → ObsEq [Ob.box
 [vI (q + 1)]] [Ob.box [vI (Prod.snd (meaD d deep q))]] ∧ AV.sv (lb false) = AV.sv (lb (Prod.fst (meaD d deep q)))) ∧ ((!nodD (Datum.kind d) (Datum.number d) (Datum.text d)
 (↑(List.length (List.map datumC (Datum.items d))) : Int)) = false → List.length (List.map datumC (Datum.items d)) ≤ 9223372036854775807 → Tc_iMeaD_sLa d deep q (li 0) (vI (q + 1))
 = Lc_iMeaD_sLa d deep q 0 ∧ Ic_iMeaD_sLa d deep q (List.length (Datum.items d) - 0) (Lc_iMeaD_sLa d deep q 0) ∧ LoopSem Try.prog (loopAt Try.f224 0) (Ic_iMeaD_sLa d deep q)
 (Yc_iMeaD_sLa d deep q) ∧ (Prod.fst (scan (fun x m => meaD x (deep + 1) m) (Datum.items d) (q + 1)) = true → ObsEq [Ob.box [vI (Prod.snd (scan (fun x m => meaD x (deep + 1) m)
 (Datum.items d) (q + 1)))]] [Ob.box [vI (Prod.snd (meaD d deep q))]] ∧ AV.sv (lb true) = AV.sv (lb (Prod.fst (meaD d deep q)))) ∧ (Prod.fst (scan (fun x m => meaD x (deep + 1) m)
 (Datum.items d) (q + 1)) = false → ObsEq [Ob.box [vI (Prod.snd (scan (fun x m => meaD x (deep + 1) m) (Datum.items d) (q + 1)))]] [Ob.box [vI (Prod.snd (meaD d deep q))]] ∧ AV.sv
 (lb false) = AV.sv (lb (Prod.fst (meaD d deep q)))) ∧ True)))) := by kernel_rfl
theorem c_iMeaD_s (d : Datum) (deep q : Int) (h : 0 ≤ deep ∧ deep ≤ 21 ∧ 0 ≤ q ∧ q ≤ 600) (ih : ∀ z ∈ d.items, ∀ (deep : Int) (q : Int) (h : 0 ≤ deep ∧ deep ≤ 21 ∧ 0 ≤ q ∧ q ≤
 600), P_c_iMeaD z deep q)  : P_c_iMeaD d deep q := by
  refine CallOK.ofRun wide (run_c_iMeaD_s d deep q) Try.call224 Try.func224 rfl rfl rfl ?_
  with_reducible repeat' (first | apply And.intro | exact flatI | exact flatS | exact rowLens | exact ih | (intro; skip) | apply obsN | apply obsC | apply obA | apply obM | apply obB | apply svA | apply tupA | apply lcA | apply lcS | apply svC | apply liC | apply lbC | apply lsC | apply vIc | apply vBc | apply vSc | apply vLc | apply mapC | apply Hc_iMeaD_sLa | apply Ec_iMeaD_sLa | apply Sc_iMeaD_sLa | apply EW0c_iMeaD_sLa | apply EW1c_iMeaD_sLa | apply c_iNode)
  all_goals (try simp only [std] at *)
  all_goals (try (first | with_reducible apply c_iNode | with_reducible apply ih | (simp only [← List.map_append]; first | with_reducible apply c_iNode | with_reducible apply ih)))
  all_goals (try (first | with_reducible rfl | omega | assumption | (refine (decide_eq_true ?_).symm; assumption) | (refine (decide_eq_false ?_).symm; assumption) | (refine rowGet ?_; (first | omega | (simp only [std]; omega) | grind)) | (refine getC ?_ rfl; (first | omega | (simp only [std]; omega) | grind)) | (refine fill_step ?_ ?_; (first | omega | (simp only [std]; omega) | grind); (first | rfl | exact (Row.eq _).trans rfl)) | (refine fill_init ?_; (first | rfl | exact (Row.eq _).trans rfl)) | (show (_ : St) = _; rfl) | grind [meaD_eq, scan, snocI, snocS, rowSnoc]))
theorem c_iMeaD (d : Datum) : ∀ (deep : Int) (q : Int) (h : 0 ≤ deep ∧ deep ≤ 21 ∧ 0 ≤ q ∧ q ≤ 600), P_c_iMeaD d deep q := Datum.ind (P := fun d => ∀ (deep : Int) (q : Int) (h : 0 ≤ deep ∧ deep ≤ 21 ∧ 0 ≤ q ∧ q ≤ 600), P_c_iMeaD d deep q) (fun d ih deep q h => c_iMeaD_s d deep q h ih) d
abbrev P_c_iIsDatum (d : Datum) : Prop := CallOK Try.prog 128 [] [datumA d] [] (.sv (lb (isDat d)))
theorem run_c_iIsDatum (d : Datum) : aexec Try.prog (Option.getD (Func.body Try.f128) Code.skip) (entry [] [datumA d] 6) [Orc.call [Mode.rd, Mode.rd, Mode.ptr] [Ob.box [vI
 (Prod.snd (meaD d 1 0))]] (AV.sv (lb (Prod.fst (meaD d 1 0)))), Orc.fin []] (finK Try.prog [ResultVar.tmp 2] [] (AV.sv (lb (isDat d)))) = (P_c_iMeaD d 1 0 ∧ ObsEq [] [] ∧ AV.sv
 (lb (Prod.fst (meaD d 1 0))) = AV.sv (lb (isDat d))) := by kernel_rfl
theorem c_iIsDatum (d : Datum)  : P_c_iIsDatum d := by
  refine CallOK.ofRun wide (run_c_iIsDatum d) Try.call128 Try.func128 rfl rfl rfl ?_
  with_reducible repeat' (first | apply And.intro | exact flatI | exact flatS | exact rowLens | (intro; skip) | apply obsN | apply obsC | apply obA | apply obM | apply obB | apply svA | apply tupA | apply lcA | apply lcS | apply svC | apply liC | apply lbC | apply lsC | apply vIc | apply vBc | apply vSc | apply vLc | apply mapC | apply c_iMeaD)
  all_goals (try simp only [std] at *)
  all_goals (try (first | with_reducible apply c_iMeaD | (simp only [← List.map_append]; first | with_reducible apply c_iMeaD)))
  all_goals (try (first | with_reducible rfl | omega | assumption | (refine (decide_eq_true ?_).symm; assumption) | (refine (decide_eq_false ?_).symm; assumption) | (refine rowGet ?_; (first | omega | (simp only [std]; omega) | grind)) | (refine getC ?_ rfl; (first | omega | (simp only [std]; omega) | grind)) | (refine fill_step ?_ ?_; (first | omega | (simp only [std]; omega) | grind); (first | rfl | exact (Row.eq _).trans rfl)) | (refine fill_init ?_; (first | rfl | exact (Row.eq _).trans rfl)) | (show (_ : St) = _; rfl) | grind [meaD_isDat, snocI, snocS, rowSnoc]))
end Go.Proofs.Ytehpjofddjmbpaa
end
section
namespace Go.Proofs.Ytehpjofddjmbpaa
open Go Go.Proofs.Ytehpjofddjmbpaa.Ab
set_option linter.unusedVariables false
set_option linter.unusedSimpArgs false
set_option maxHeartbeats 4000000
instance memDec (s : ByteArray) (L : List ByteArray) : Decidable (s ∈ L) := @List.instDecidableMemOfLawfulBEq ByteArray instBEqOfDecidableEq _ s L
def memS (S : List ByteArray) (n : ByteArray) : Int := if n ∈ S then 1 else 0
theorem memS_nil : zS = memS [] := by funext m; simp [zS, memS]
theorem memS_snoc {S : List ByteArray} {n : ByteArray} : upd1 (memS S) n 1 = memS (S ++ [n]) := by
  funext m; simp only [upd1, memS, List.mem_append, List.mem_singleton]; grind
theorem memS_one {S : List ByteArray} {n : ByteArray} : memS S n = 1 ↔ n ∈ S := by
  simp only [memS]; grind
def okN (n : Int) (L : List ByteArray) : Bool := decide (L.Nodup ∧ ∀ s ∈ L, isSym s = true ∧ (s.size : Int) ≤ n)
theorem okN_iff {n : Int} {L : List ByteArray} : okN n L = true ↔ L.Nodup ∧ ∀ s ∈ L, isSym s = true ∧ (s.size : Int) ≤ n := decide_eq_true_iff
theorem okN_nil {n : Int} : okN n [] = true := rfl
theorem okN_snoc {m : Int} {L : List ByteArray} {n : ByteArray} : okN m (L ++ [n]) = true ↔ okN m L = true ∧ isSym n = true ∧ (n.size : Int) ≤ m ∧ n ∉ L := by
  simp only [okN_iff]; rw [List.nodup_append]
  simp only [List.mem_append, List.mem_singleton]
  grind
theorem okN_left {n : Int} {A B : List ByteArray} (h : okN n (A ++ B) = true) : okN n A = true := by
  rw [okN_iff] at h ⊢
  exact ⟨(List.nodup_append.1 h.1).1, fun s hs => h.2 s (List.mem_append_left _ hs)⟩
theorem okN_take {n : Int} {L : List ByteArray} {k : Nat} (h : okN n L = true) : okN n (L.take k) = true := by
  rw [← List.take_append_drop k L] at h; exact okN_left h
def inS (L : List ByteArray) (s : ByteArray) : Bool := decide (s ∈ L)
theorem inS_iff {L : List ByteArray} {s : ByteArray} : inS L s = true ↔ s ∈ L := decide_eq_true_iff
def symD (s : ByteArray) : Datum := ⟨1, 0, s, []⟩
def lstD (L : List Datum) : Datum := ⟨0, 0, mkS [], L⟩
abbrev lstR (i : Nat) : SV := .agg [vI 0, vI 0, vS (mkS []), .ref i]
theorem sym_snoc (L : List ByteArray) (s : ByteArray) : (L.map symD).map datumC ++ [[cI 1, cI 0, cS s, Cell.list []]] = ((L ++ [s]).map symD).map datumC := by
  simp only [List.map_append, List.map_cons, List.map_nil, datumC_eq]; rfl
def moduleS : ByteArray := mkS [109, 111, 100, 117, 108, 101]
theorem isSym_le {s : ByteArray} : isSym s = true → (s.size : Int) ≤ 16 := by
  unfold isSym; simp only [Bool.and_eq_true, decide_eq_true_eq]; intro h; exact h.1.1.1.2
def modD (m : Module) : List Datum := [symD moduleS, symD m.name, lstD (m.imports.map symD), lstD (m.exports.map symD)] ++ m.body
theorem modD_rows (m : Module) : (modD m).map datumC = [cI 1, cI 0, cS moduleS, Cell.list []] :: [cI 1, cI 0, cS m.name, Cell.list []] :: [cI 0, cI 0, cS (mkS []), Cell.list ((m.imports.map symD).map datumC)] :: [cI 0, cI 0, cS (mkS []), Cell.list ((m.exports.map symD).map datumC)] :: m.body.map datumC := by
  simp only [modD, symD, lstD, List.map_append, List.map_cons, List.map_nil, datumC_eq, List.cons_append, List.nil_append]; rfl
def modOK (m : Module) : Bool := isNam m.name && okN 8 m.imports && decide (m.imports.length ≤ 12) && okN 16 m.exports && decide (m.exports.length ≤ 60) && !inS m.imports m.name && isDat (lstD (modD m))
abbrev P_c_sHasS (L : List ByteArray) (s : ByteArray) : Prop := CallOK Try.prog 121 [] [ll (L.map strC), ls s] [] (.sv (lb (inS L s)))
def Tc_sHasSLa (L : List ByteArray) (s : ByteArray) (x0 : SV) : St := St.mk (regsOf 17 [(1, AV.sv (ls s)), (7, AV.sv (ll (List.map strC L))), (8, AV.sv (li (↑(List.length (List.map
 strC L)) : Int))), (9, AV.sv x0)]) [] 0 
def Lc_sHasSLa (L : List ByteArray) (s : ByteArray) (k : Nat) : St := Tc_sHasSLa L s (li (↑k : Int)) 
def Ic_sHasSLa (L : List ByteArray) (s : ByteArray) : Nat → St → Prop := Head (Lc_sHasSLa L s) (fun k => k ≤ List.length L ∧ List.length L ≤ 9223372036854775807 ∧ ¬s ∈ List.take k
 L) fun k => List.length L - k 
def W0c_sHasSLa (L : List ByteArray) (s : ByteArray) : St := St.mk (regsOf 17 []) [] 0 
def W1c_sHasSLa (L : List ByteArray) (s : ByteArray) (x0 : SV) : St := St.mk (regsOf 17 [(4, AV.sv x0)]) [] 0 
def Yc_sHasSLa (L : List ByteArray) (s : ByteArray) : List (Prop × AEx × St) := [(inS L s = false, AEx.exit 0, W0c_sHasSLa L s), (inS L s = true, AEx.ret, W1c_sHasSLa L s (lb
 true))]
theorem Hc_sHasSLa {L : List ByteArray} {s : ByteArray} {k : Nat} {m : Nat} (h : (fun k => k ≤ List.length L ∧ List.length L ≤ 9223372036854775807 ∧ ¬s ∈ List.take k L) k) (hm :
 (fun k => List.length L - k) k = m) : Ic_sHasSLa L s m (Lc_sHasSLa L s k) := hm ▸ Head.mk h
theorem Ec_sHasSLa {L : List ByteArray} {s : ByteArray} {k : Nat} {x0 : SV} (h0 : x0 = (li (↑k : Int))) : Tc_sHasSLa L s x0 = Lc_sHasSLa L s k := by
  rw [h0]
  rfl
theorem EW1c_sHasSLa {L : List ByteArray} {s : ByteArray} {x0 y0 : SV} (h0 : x0 = y0) : W1c_sHasSLa L s x0 = W1c_sHasSLa L s y0 := by rw [h0]
theorem run_c_sHasSLa (L : List ByteArray) (s : ByteArray) (k : Nat) : aexec Try.prog (loopAt Try.f121 0) (Lc_sHasSLa L s k) [Orc.br [Orc.cells (strC (List.getD L k default)),
 Orc.br [Orc.ghost (Ghost.sel [] [4]), Orc.out 1] [Orc.ghost (Ghost.sel [] [1, 7, 8, 9]), Orc.goto (List.length L - (k + 1)) (Lc_sHasSLa L s (k + 1))]] [Orc.ghost (Ghost.sel []
 []), Orc.out 0]] (loopK (Ic_sHasSLa L s) (Yc_sHasSLa L s) (List.length L - k)) = ((decide ((↑k : Int) < (↑(List.length (List.map strC L)) : Int)) = true → (0 ≤ (↑k : Int) ∧
 (List.map strC L)[Int.toNat (↑k : Int)]? = some [cS (List.getD L k default)]) ∧ (decide (Array.toList (ByteArray.data (List.getD L k default)) = Array.toList (ByteArray.data s)) =
 true → inS L s = true ∧ W1c_sHasSLa L s (lb true) = W1c_sHasSLa L s (lb true)) ∧ (decide (Array.toList (ByteArray.data (List.getD L k default)) = Array.toList (ByteArray.data s))
 = false → rng IntKind.i64 ((↑k : Int) + 1) ∧ List.length L - (k + 1) < List.length L - k ∧ Tc_sHasSLa L s (li ((↑k : Int) + 1)) = Lc_sHasSLa L s (k + 1) ∧ Ic_sHasSLa L s
 (List.length L - (k + 1)) (Lc_sHasSLa L s (k + 1)))) ∧ (decide ((↑k : Int) < (↑(List.length (List.map strC L)) : Int)) = false → inS L s = false ∧ W0c_sHasSLa L s = W0c_sHasSLa L
 s)) := by kernel_rfl
theorem Sc_sHasSLa (L : List ByteArray) (s : ByteArray)  : LoopSem Try.prog (loopAt Try.f121 0) (Ic_sHasSLa L s) (Yc_sHasSLa L s) := by
  refine LoopSem.ofHead wide fun k h => ⟨_, _, run_c_sHasSLa L s k, ?_⟩
  with_reducible repeat' (first | apply And.intro | exact flatI | exact flatS | exact rowLens | (intro; skip) | apply obsN | apply obsC | apply obA | apply obM | apply obB | apply svA | apply tupA | apply lcA | apply lcS | apply svC | apply liC | apply lbC | apply lsC | apply vIc | apply vBc | apply vSc | apply vLc | apply mapC | apply mIc | apply mOc | apply mSc | apply mLc | apply Hc_sHasSLa | apply Ec_sHasSLa | apply EW1c_sHasSLa)
  all_goals (try simp only [std] at *)
  all_goals (try (first | with_reducible rfl | omega | assumption | (refine (decide_eq_true ?_).symm; assumption) | (refine (decide_eq_false ?_).symm; assumption) | (refine rowGet ?_; (first | omega | (simp only [std]; omega) | grind)) | (refine getC ?_ rfl; (first | omega | (simp only [std]; omega) | grind)) | exact look_mI | exact look_mO | exact look_mO1 | exact look_mS | exact look_mL | exact upd_mI | exact upd_mO | exact del_mO | exact upd_mS | exact take_mL | (refine upd_mL ?_; grind) | (refine fill_step ?_ ?_; (first | omega | (simp only [std]; omega) | grind); (first | rfl | exact (Row.eq _).trans rfl)) | (refine fill_init ?_; (first | rfl | exact (Row.eq _).trans rfl)) | (show (_ : St) = _; rfl) | grind [take_get, getD_mem', bytes_ext, inS, snocI, snocS, rowSnoc]))
theorem run_c_sHasS (L : List ByteArray) (s : ByteArray) : aexec Try.prog (Option.getD (Func.body Try.f121) Code.skip) (entry [] [ll (List.map strC L), ls s] 17) [Orc.ghost
 (Ghost.sel [] [1, 7, 8, 9]), Orc.loop (List.length L - 0) (Lc_sHasSLa L s 0) (Ic_sHasSLa L s) [(inS L s = false, AEx.exit 0, W0c_sHasSLa L s, [Orc.fin []]), (inS L s = true,
 AEx.ret, W1c_sHasSLa L s (lb true), [Orc.fin []])]] (finK Try.prog [ResultVar.tmp 4] [] (AV.sv (lb (inS L s)))) = (List.length (List.map strC L) ≤ 9223372036854775807 → Tc_sHasSLa
 L s (li 0) = Lc_sHasSLa L s 0 ∧ Ic_sHasSLa L s (List.length L - 0) (Lc_sHasSLa L s 0) ∧ LoopSem Try.prog (loopAt Try.f121 0) (Ic_sHasSLa L s) (Yc_sHasSLa L s) ∧ (inS L s = false →
 ObsEq [] [] ∧ AV.sv (lb false) = AV.sv (lb (inS L s))) ∧ (inS L s = true → ObsEq [] [] ∧ AV.sv (lb true) = AV.sv (lb (inS L s))) ∧ True) := by kernel_rfl
theorem c_sHasS (L : List ByteArray) (s : ByteArray)  : P_c_sHasS L s := by
  refine CallOK.ofRun wide (run_c_sHasS L s) Try.call121 Try.func121 rfl rfl rfl ?_
  with_reducible repeat' (first | apply And.intro | exact flatI | exact flatS | exact rowLens | (intro; skip) | apply obsN | apply obsC | apply obA | apply obM | apply obB | apply svA | apply tupA | apply lcA | apply lcS | apply svC | apply liC | apply lbC | apply lsC | apply vIc | apply vBc | apply vSc | apply vLc | apply mapC | apply mIc | apply mOc | apply mSc | apply mLc | apply Hc_sHasSLa | apply Ec_sHasSLa | apply Sc_sHasSLa | apply EW1c_sHasSLa)
  all_goals (try simp only [std] at *)
  all_goals (try (first | with_reducible rfl | omega | assumption | (refine (decide_eq_true ?_).symm; assumption) | (refine (decide_eq_false ?_).symm; assumption) | (refine rowGet ?_; (first | omega | (simp only [std]; omega) | grind)) | (refine getC ?_ rfl; (first | omega | (simp only [std]; omega) | grind)) | exact look_mI | exact look_mO | exact look_mO1 | exact look_mS | exact look_mL | exact upd_mI | exact upd_mO | exact del_mO | exact upd_mS | exact take_mL | (refine upd_mL ?_; grind) | (refine fill_step ?_ ?_; (first | omega | (simp only [std]; omega) | grind); (first | rfl | exact (Row.eq _).trans rfl)) | (refine fill_init ?_; (first | rfl | exact (Row.eq _).trans rfl)) | (show (_ : St) = _; rfl) | grind [snocI, snocS, rowSnoc]))
abbrev P_c_sNames (L : List ByteArray) (most : Int) (longest : Int) : Prop := CallOK Try.prog 120 [] [ll (L.map strC), li most, li longest] [] (.sv (lb (okN longest L && decide ((L.length : Int) ≤ most))))
def Tc_sNamesLa (L : List ByteArray) (most : Int) (longest : Int) (x0 : SV) : St := St.mk (regsOf 37 [(0, AV.sv (ll (List.map strC L))), (1, AV.sv (li most)), (2, AV.sv (li
 longest)), (9, AV.sv (ll (List.map strC L))), (10, AV.sv (li (↑(List.length (List.map strC L)) : Int))), (11, AV.sv x0)]) [] 0 
def Lc_sNamesLa (L : List ByteArray) (most : Int) (longest : Int) (k : Nat) : St := Tc_sNamesLa L most longest (li (↑k : Int)) 
def Ic_sNamesLa (L : List ByteArray) (most : Int) (longest : Int) : Nat → St → Prop := Head (Lc_sNamesLa L most longest) (fun k => k ≤ List.length L ∧ List.length L ≤
 9223372036854775807 ∧ okN longest (List.take k L) = true) fun k => List.length L - k 
def W0c_sNamesLa (L : List ByteArray) (most : Int) (longest : Int) : St := St.mk (regsOf 37 [(0, AV.sv (ll (List.map strC L))), (1, AV.sv (li most))]) [] 0 
def W1c_sNamesLa (L : List ByteArray) (most : Int) (longest : Int) (x0 : SV) : St := St.mk (regsOf 37 [(6, AV.sv x0)]) [] 0 
def Yc_sNamesLa (L : List ByteArray) (most : Int) (longest : Int) : List (Prop × AEx × St) := [(okN longest L = true, AEx.exit 0, W0c_sNamesLa L most longest), (okN longest L =
 false, AEx.ret, W1c_sNamesLa L most longest (lb false))]
theorem Hc_sNamesLa {L : List ByteArray} {most : Int} {longest : Int} {k : Nat} {m : Nat} (h : (fun k => k ≤ List.length L ∧ List.length L ≤ 9223372036854775807 ∧ okN longest
 (List.take k L) = true) k) (hm : (fun k => List.length L - k) k = m) : Ic_sNamesLa L most longest m (Lc_sNamesLa L most longest k) := hm ▸ Head.mk h
theorem Ec_sNamesLa {L : List ByteArray} {most : Int} {longest : Int} {k : Nat} {x0 : SV} (h0 : x0 = (li (↑k : Int))) : Tc_sNamesLa L most longest x0 = Lc_sNamesLa L most longest k
 := by
  rw [h0]
  rfl
theorem EW1c_sNamesLa {L : List ByteArray} {most : Int} {longest : Int} {x0 y0 : SV} (h0 : x0 = y0) : W1c_sNamesLa L most longest x0 = W1c_sNamesLa L most longest y0 := by rw [h0]
theorem run_c_sNamesLa (L : List ByteArray) (most : Int) (longest : Int) (k : Nat) : aexec Try.prog (loopAt Try.f120 0) (Lc_sNamesLa L most longest k) [Orc.br [Orc.cells (strC
 (List.getD L k default)), Orc.call [Mode.rd] [] (AV.sv (lb (isSym (List.getD L k default)))), Orc.br [Orc.bool true, Orc.bool true, Orc.ghost (Ghost.sel [] [6]), Orc.out 1]
 [Orc.br [Orc.bool true, Orc.ghost (Ghost.sel [] [6]), Orc.out 1] [Orc.call [Mode.rd, Mode.rd] [] (AV.sv (lb (inS (List.take (Int.toNat (↑k : Int) - 0) (List.drop 0 L)) (List.getD
 L k default)))), Orc.br [Orc.ghost (Ghost.sel [] [6]), Orc.out 1] [Orc.ghost (Ghost.sel [] [0, 1, 2, 9, 10, 11]), Orc.goto (List.length L - (k + 1)) (Lc_sNamesLa L most longest (k
 + 1))]]]] [Orc.ghost (Ghost.sel [] [0, 1]), Orc.out 0]] (loopK (Ic_sNamesLa L most longest) (Yc_sNamesLa L most longest) (List.length L - k)) = ((decide ((↑k : Int) <
 (↑(List.length (List.map strC L)) : Int)) = true → (0 ≤ (↑k : Int) ∧ (List.map strC L)[Int.toNat (↑k : Int)]? = some [cS (List.getD L k default)]) ∧ P_c_sIsSymbol (List.getD L k
 default) ∧ ((!isSym (List.getD L k default)) = true → true = true ∧ true = true ∧ okN longest L = false ∧ W1c_sNamesLa L most longest (lb false) = W1c_sNamesLa L most longest (lb
 false)) ∧ ((!isSym (List.getD L k default)) = false → List.length (Array.toList (ByteArray.data (List.getD L k default))) ≤ 9223372036854775807 → (decide (longest < (↑(List.length
 (Array.toList (ByteArray.data (List.getD L k default)))) : Int)) = true → true = true ∧ okN longest L = false ∧ W1c_sNamesLa L most longest (lb false) = W1c_sNamesLa L most
 longest (lb false)) ∧ (decide (longest < (↑(List.length (Array.toList (ByteArray.data (List.getD L k default)))) : Int)) = false → 0 ≤ (↑k : Int) ∧ (0 ≤ Int.toNat (↑k : Int) ∧
 Int.toNat (↑k : Int) ≤ List.length (List.map strC L) ∧ ∀ (e : List Cell), e ∈ List.map strC L → List.length e = 1) ∧ CallOK Try.prog 121 [] [ll (List.take (Int.toNat (↑k : Int) -
 0) (List.drop 0 (List.map strC L))), ls (List.getD L k default)] [] (AV.sv (lb (inS (List.take (Int.toNat (↑k : Int) - 0) (List.drop 0 L)) (List.getD L k default)))) ∧ (inS
 (List.take (Int.toNat (↑k : Int) - 0) (List.drop 0 L)) (List.getD L k default) = true → okN longest L = false ∧ W1c_sNamesLa L most longest (lb false) = W1c_sNamesLa L most
 longest (lb false)) ∧ (inS (List.take (Int.toNat (↑k : Int) - 0) (List.drop 0 L)) (List.getD L k default) = false → rng IntKind.i64 ((↑k : Int) + 1) ∧ List.length L - (k + 1) <
 List.length L - k ∧ Tc_sNamesLa L most longest (li ((↑k : Int) + 1)) = Lc_sNamesLa L most longest (k + 1) ∧ Ic_sNamesLa L most longest (List.length L - (k + 1)) (Lc_sNamesLa L
 most longest (k + 1)))))) ∧ (decide ((↑k : Int) < (↑(List.length (List.map strC L)) : Int)) = false → okN longest L = true ∧ W0c_sNamesLa L most longest = W0c_sNamesLa L most
 longest)) := by kernel_rfl
theorem Sc_sNamesLa (L : List ByteArray) (most : Int) (longest : Int)  : LoopSem Try.prog (loopAt Try.f120 0) (Ic_sNamesLa L most longest) (Yc_sNamesLa L most longest) := by
  refine LoopSem.ofHead wide fun k h => ⟨_, _, run_c_sNamesLa L most longest k, ?_⟩
  have g1 := @okN_snoc longest (L.take k) (L.getD k default)
  have g2 := @okN_take longest L (k + 1)
  with_reducible repeat' (first | apply And.intro | exact flatI | exact flatS | exact rowLens | (intro; skip) | apply obsN | apply obsC | apply obA | apply obM | apply obB | apply svA | apply tupA | apply lcA | apply lcS | apply svC | apply liC | apply lbC | apply lsC | apply vIc | apply vBc | apply vSc | apply vLc | apply mapC | apply mIc | apply mOc | apply mSc | apply mLc | apply Hc_sNamesLa | apply Ec_sNamesLa | apply EW1c_sNamesLa | apply c_sIsSymbol | apply c_sHasS)
  all_goals (try simp only [std] at *)
  all_goals (try (first | with_reducible apply c_sIsSymbol | with_reducible apply c_sHasS | (simp only [← List.map_append]; first | with_reducible apply c_sIsSymbol | with_reducible apply c_sHasS)))
  all_goals (try (first | with_reducible rfl | omega | assumption | (refine (decide_eq_true ?_).symm; assumption) | (refine (decide_eq_false ?_).symm; assumption) | (refine rowGet ?_; (first | omega | (simp only [std]; omega) | grind)) | (refine getC ?_ rfl; (first | omega | (simp only [std]; omega) | grind)) | exact look_mI | exact look_mO | exact look_mO1 | exact look_mS | exact look_mL | exact upd_mI | exact upd_mO | exact del_mO | exact upd_mS | exact take_mL | (refine upd_mL ?_; grind) | (refine fill_step ?_ ?_; (first | omega | (simp only [std]; omega) | grind); (first | rfl | exact (Row.eq _).trans rfl)) | (refine fill_init ?_; (first | rfl | exact (Row.eq _).trans rfl)) | (show (_ : St) = _; rfl) | grind [take_get, inS_iff, snocI, snocS, rowSnoc]))
theorem run_c_sNames (L : List ByteArray) (most : Int) (longest : Int) : aexec Try.prog (Option.getD (Func.body Try.f120) Code.skip) (entry [] [ll (List.map strC L), li most, li
 longest] 37) [Orc.ghost (Ghost.sel [] [0, 1, 2, 9, 10, 11]), Orc.loop (List.length L - 0) (Lc_sNamesLa L most longest 0) (Ic_sNamesLa L most longest) [(okN longest L = true,
 AEx.exit 0, W0c_sNamesLa L most longest, [Orc.fin []]), (okN longest L = false, AEx.ret, W1c_sNamesLa L most longest (lb false), [Orc.fin []])]] (finK Try.prog [ResultVar.tmp 6]
 [] (AV.sv (lb (okN longest L && decide ((↑(List.length L) : Int) ≤ most))))) = (List.length (List.map strC L) ≤ 9223372036854775807 → Tc_sNamesLa L most longest (li 0) =
 Lc_sNamesLa L most longest 0 ∧ Ic_sNamesLa L most longest (List.length L - 0) (Lc_sNamesLa L most longest 0) ∧ LoopSem Try.prog (loopAt Try.f120 0) (Ic_sNamesLa L most longest)
 (Yc_sNamesLa L most longest) ∧ (okN longest L = true → List.length (List.map strC L) ≤ 9223372036854775807 → ObsEq [] [] ∧ AV.sv (lb (decide ((↑(List.length (List.map strC L)) :
 Int) ≤ most))) = AV.sv (lb (okN longest L && decide ((↑(List.length L) : Int) ≤ most)))) ∧ (okN longest L = false → ObsEq [] [] ∧ AV.sv (lb false) = AV.sv (lb (okN longest L &&
 decide ((↑(List.length L) : Int) ≤ most)))) ∧ True) := by kernel_rfl
theorem c_sNames (L : List ByteArray) (most longest : Int)  : P_c_sNames L most longest := by
  refine CallOK.ofRun wide (run_c_sNames L most longest) Try.call120 Try.func120 rfl rfl rfl ?_
  with_reducible repeat' (first | apply And.intro | exact flatI | exact flatS | exact rowLens | (intro; skip) | apply obsN | apply obsC | apply obA | apply obM | apply obB | apply svA | apply tupA | apply lcA | apply lcS | apply svC | apply liC | apply lbC | apply lsC | apply vIc | apply vBc | apply vSc | apply vLc | apply mapC | apply mIc | apply mOc | apply mSc | apply mLc | apply Hc_sNamesLa | apply Ec_sNamesLa | apply Sc_sNamesLa | apply EW1c_sNamesLa | apply c_sIsSymbol | apply c_sHasS)
  all_goals (try simp only [std] at *)
  all_goals (try (first | with_reducible apply c_sIsSymbol | with_reducible apply c_sHasS | (simp only [← List.map_append]; first | with_reducible apply c_sIsSymbol | with_reducible apply c_sHasS)))
  all_goals (try (first | with_reducible rfl | omega | assumption | (refine (decide_eq_true ?_).symm; assumption) | (refine (decide_eq_false ?_).symm; assumption) | (refine rowGet ?_; (first | omega | (simp only [std]; omega) | grind)) | (refine getC ?_ rfl; (first | omega | (simp only [std]; omega) | grind)) | exact look_mI | exact look_mO | exact look_mO1 | exact look_mS | exact look_mL | exact upd_mI | exact upd_mO | exact del_mO | exact upd_mS | exact take_mL | (refine upd_mL ?_; grind) | (refine fill_step ?_ ?_; (first | omega | (simp only [std]; omega) | grind); (first | rfl | exact (Row.eq _).trans rfl)) | (refine fill_init ?_; (first | rfl | exact (Row.eq _).trans rfl)) | (show (_ : St) = _; rfl) | grind [okN_nil, snocI, snocS, rowSnoc]))
abbrev P_c_sList (R : List (List Cell)) : Prop := CallOK Try.prog 220 [.arr false 4 R] [.one (.ref 0)] [.dead, .arr false 4 R] (.sv (lstR 1))
theorem run_c_sList (R : List (List Cell)) : aexec Try.prog (Option.getD (Func.body Try.f220) Code.skip) (entry [Ob.arr false 4 R] [SV.one (AC.ref 0)] 5) [Orc.ghost (Ghost.move 0),
 Orc.fin [2]] (finK Try.prog [ResultVar.cell 2 66] [Ob.dead, Ob.arr false 4 R] (AV.sv (lstR 1))) = (ObsEq [Ob.dead, Ob.arr false 4 R] [Ob.dead, Ob.arr false 4 R] ∧ AV.sv (SV.agg
 [vI 0, vI 0, vS (ByteArray.mk #[]), AC.ref 1]) = AV.sv (SV.agg [vI 0, vI 0, vS (mkS []), AC.ref 1])) := by kernel_rfl
theorem c_sList (R : List (List Cell))  : P_c_sList R := by
  refine CallOK.ofRun wide (run_c_sList R) Try.call220 Try.func220 rfl rfl rfl ?_
  with_reducible repeat' (first | apply And.intro | exact flatI | exact flatS | exact rowLens | (intro; skip) | apply obsN | apply obsC | apply obA | apply obM | apply obB | apply svA | apply tupA | apply lcA | apply lcS | apply svC | apply liC | apply lbC | apply lsC | apply vIc | apply vBc | apply vSc | apply vLc | apply mapC | apply mIc | apply mOc | apply mSc | apply mLc)
  all_goals (try simp only [std] at *)
  all_goals (try (first | with_reducible rfl | omega | assumption | (refine (decide_eq_true ?_).symm; assumption) | (refine (decide_eq_false ?_).symm; assumption) | (refine rowGet ?_; (first | omega | (simp only [std]; omega) | grind)) | (refine getC ?_ rfl; (first | omega | (simp only [std]; omega) | grind)) | exact look_mI | exact look_mO | exact look_mO1 | exact look_mS | exact look_mL | exact upd_mI | exact upd_mO | exact del_mO | exact upd_mS | exact take_mL | (refine upd_mL ?_; grind) | (refine fill_step ?_ ?_; (first | omega | (simp only [std]; omega) | grind); (first | rfl | exact (Row.eq _).trans rfl)) | (refine fill_init ?_; (first | rfl | exact (Row.eq _).trans rfl)) | (show (_ : St) = _; rfl) | grind [snocI, snocS, rowSnoc]))
abbrev P_c_sSymbols (L : List ByteArray) : Prop := CallOK Try.prog 221 [] [ll (L.map strC)] [] (.sv (.agg [vI 0, vI 0, vS (mkS []), vL ((L.map symD).map datumC)]))
def Tc_sSymbolsLa (L : List ByteArray) (x0 : SV) (x1 : Ob) : St := St.mk (regsOf 22 [(2, AV.sv (SV.one (AC.ptr 0 0))), (3, AV.sv (SV.one (AC.ptr 1 0))), (7, AV.sv (ll (List.map
 strC L))), (8, AV.sv (li (↑(List.length (List.map strC L)) : Int))), (9, AV.sv x0)]) [Ob.box [vI 0, vI 0, vS (ByteArray.mk #[]), AC.val (Cell.lit (Value.slice none 0 0))], Ob.box
 [vI 0, vI 0, vS (ByteArray.mk #[]), AC.ref 2], x1] 0 
def Lc_sSymbolsLa (L : List ByteArray) (k : Nat) : St := Tc_sSymbolsLa L (li (↑k : Int)) (Ob.arr true 4 (List.map datumC (List.map symD (List.take k L)))) 
def Ic_sSymbolsLa (L : List ByteArray) : Nat → St → Prop := Head (Lc_sSymbolsLa L) (fun k => k ≤ List.length L ∧ List.length L ≤ 9223372036854775807) fun k => List.length L - k 
def W0c_sSymbolsLa (L : List ByteArray) (x0 : Ob) : St := St.mk (regsOf 22 [(2, AV.sv (SV.one (AC.ptr 0 0))), (3, AV.sv (SV.one (AC.ptr 1 0)))]) [Ob.box [vI 0, vI 0, vS
 (ByteArray.mk #[]), AC.val (Cell.lit (Value.slice none 0 0))], Ob.box [vI 0, vI 0, vS (ByteArray.mk #[]), AC.ref 2], x0] 0 
def Yc_sSymbolsLa (L : List ByteArray) : List (Prop × AEx × St) := [(True, AEx.exit 0, W0c_sSymbolsLa L (Ob.arr true 4 (List.map datumC (List.map symD L))))]
theorem Hc_sSymbolsLa {L : List ByteArray} {k : Nat} {m : Nat} (h : (fun k => k ≤ List.length L ∧ List.length L ≤ 9223372036854775807) k) (hm : (fun k => List.length L - k) k = m)
 : Ic_sSymbolsLa L m (Lc_sSymbolsLa L k) := hm ▸ Head.mk h
theorem Ec_sSymbolsLa {L : List ByteArray} {k : Nat} {x0 : SV} {x1 : Ob} (h0 : x0 = (li (↑k : Int))) (h1 : x1 = (Ob.arr true 4 (List.map datumC (List.map symD (List.take k L))))) :
 Tc_sSymbolsLa L x0 x1 = Lc_sSymbolsLa L k := by
  rw [h0, h1]
  rfl
theorem EW0c_sSymbolsLa {L : List ByteArray} {x0 y0 : Ob} (h0 : x0 = y0) : W0c_sSymbolsLa L x0 = W0c_sSymbolsLa L y0 := by rw [h0]
theorem run_c_sSymbolsLa (L : List ByteArray) (k : Nat) : aexec Try.prog (loopAt Try.f221 0) (Lc_sSymbolsLa L k) [Orc.br [Orc.cells (strC (List.getD L k default)), Orc.ghost
 (Ghost.sel [0, 1, 4] [2, 3, 7, 8, 9]), Orc.goto (List.length L - (k + 1)) (Lc_sSymbolsLa L (k + 1))] [Orc.ghost (Ghost.sel [0, 1, 2] [2, 3]), Orc.out 0]] (loopK (Ic_sSymbolsLa L)
 (Yc_sSymbolsLa L) (List.length L - k)) = ((decide ((↑k : Int) < (↑(List.length (List.map strC L)) : Int)) = true → (0 ≤ (↑k : Int) ∧ (List.map strC L)[Int.toNat (↑k : Int)]? =
 some [cS (List.getD L k default)]) ∧ (List.length (List.map datumC (List.map symD (List.take k L))) + 1) * 56 ≤ 140737488355328 ∧ rng IntKind.i64 ((↑k : Int) + 1) ∧ List.length L
 - (k + 1) < List.length L - k ∧ Tc_sSymbolsLa L (li ((↑k : Int) + 1)) (Ob.arr true 4 (List.map datumC (List.map symD (List.take k L)) ++ [[cI 1, cI 0, cS (List.getD L k default),
 Cell.list []]])) = Lc_sSymbolsLa L (k + 1) ∧ Ic_sSymbolsLa L (List.length L - (k + 1)) (Lc_sSymbolsLa L (k + 1))) ∧ (decide ((↑k : Int) < (↑(List.length (List.map strC L)) : Int))
 = false → True ∧ W0c_sSymbolsLa L (Ob.arr true 4 (List.map datumC (List.map symD (List.take k L)))) = W0c_sSymbolsLa L (Ob.arr true 4 (List.map datumC (List.map symD L))))) := by
 kernel_rfl
theorem Sc_sSymbolsLa (L : List ByteArray) (h : List.length L ≤ 2147483647)  : LoopSem Try.prog (loopAt Try.f221 0) (Ic_sSymbolsLa L) (Yc_sSymbolsLa L) := by
  refine LoopSem.ofHead wide fun k h => ⟨_, _, run_c_sSymbolsLa L k, ?_⟩
  with_reducible repeat' (first | apply And.intro | exact flatI | exact flatS | exact rowLens | (intro; skip) | apply obsN | apply obsC | apply obA | apply obM | apply obB | apply svA | apply tupA | apply lcA | apply lcS | apply svC | apply liC | apply lbC | apply lsC | apply vIc | apply vBc | apply vSc | apply vLc | apply mapC | apply mIc | apply mOc | apply mSc | apply mLc | apply Hc_sSymbolsLa | apply Ec_sSymbolsLa | apply EW0c_sSymbolsLa)
  all_goals (try simp only [std] at *)
  all_goals (try (first | with_reducible rfl | omega | assumption | (refine (decide_eq_true ?_).symm; assumption) | (refine (decide_eq_false ?_).symm; assumption) | (refine rowGet ?_; (first | omega | (simp only [std]; omega) | grind)) | (refine getC ?_ rfl; (first | omega | (simp only [std]; omega) | grind)) | exact look_mI | exact look_mO | exact look_mO1 | exact look_mS | exact look_mL | exact upd_mI | exact upd_mO | exact del_mO | exact upd_mS | exact take_mL | (refine upd_mL ?_; grind) | (refine fill_step ?_ ?_; (first | omega | (simp only [std]; omega) | grind); (first | rfl | exact (Row.eq _).trans rfl)) | (refine fill_init ?_; (first | rfl | exact (Row.eq _).trans rfl)) | (show (_ : St) = _; rfl) | grind [take_get, sym_snoc, snocI, snocS, rowSnoc, getD_mem']))
theorem run_c_sSymbols (L : List ByteArray) : aexec Try.prog (Option.getD (Func.body Try.f221) Code.skip) (entry [] [ll (List.map strC L)] 22) [Orc.ghost (Ghost.nilbox 1 3 true 4),
 Orc.ghost (Ghost.sel [0, 1, 2] [2, 3, 7, 8, 9]), Orc.loop (List.length L - 0) (Lc_sSymbolsLa L 0) (Ic_sSymbolsLa L) [(True, AEx.exit 0, W0c_sSymbolsLa L (Ob.arr true 4 (List.map
 datumC (List.map symD L))), [Orc.ghost (Ghost.lock 2), Orc.fin []])]] (finK Try.prog [ResultVar.cell 2 66] [] (AV.sv (SV.agg [vI 0, vI 0, vS (mkS []), vL (List.map datumC
 (List.map symD L))]))) = (List.length (List.map strC L) ≤ 9223372036854775807 → Tc_sSymbolsLa L (li 0) (Ob.arr true 4 []) = Lc_sSymbolsLa L 0 ∧ Ic_sSymbolsLa L (List.length L - 0)
 (Lc_sSymbolsLa L 0) ∧ LoopSem Try.prog (loopAt Try.f221 0) (Ic_sSymbolsLa L) (Yc_sSymbolsLa L) ∧ (True → ObsEq [] [] ∧ AV.sv (SV.agg [vI 0, vI 0, vS (ByteArray.mk #[]), vL
 (List.map datumC (List.map symD L))]) = AV.sv (SV.agg [vI 0, vI 0, vS (mkS []), vL (List.map datumC (List.map symD L))])) ∧ True) := by kernel_rfl
theorem c_sSymbols (L : List ByteArray) (h : L.length ≤ 2147483647)  : P_c_sSymbols L := by
  refine CallOK.ofRun wide (run_c_sSymbols L) Try.call221 Try.func221 rfl rfl rfl ?_
  with_reducible repeat' (first | apply And.intro | exact flatI | exact flatS | exact rowLens | (intro; skip) | apply obsN | apply obsC | apply obA | apply obM | apply obB | apply svA | apply tupA | apply lcA | apply lcS | apply svC | apply liC | apply lbC | apply lsC | apply vIc | apply vBc | apply vSc | apply vLc | apply mapC | apply mIc | apply mOc | apply mSc | apply mLc | apply Hc_sSymbolsLa | apply Ec_sSymbolsLa | apply Sc_sSymbolsLa | apply EW0c_sSymbolsLa)
  all_goals (try simp only [std] at *)
  all_goals (try (first | with_reducible rfl | omega | assumption | (refine (decide_eq_true ?_).symm; assumption) | (refine (decide_eq_false ?_).symm; assumption) | (refine rowGet ?_; (first | omega | (simp only [std]; omega) | grind)) | (refine getC ?_ rfl; (first | omega | (simp only [std]; omega) | grind)) | exact look_mI | exact look_mO | exact look_mO1 | exact look_mS | exact look_mL | exact upd_mI | exact upd_mO | exact del_mO | exact upd_mS | exact take_mL | (refine upd_mL ?_; grind) | (refine fill_step ?_ ?_; (first | omega | (simp only [std]; omega) | grind); (first | rfl | exact (Row.eq _).trans rfl)) | (refine fill_init ?_; (first | rfl | exact (Row.eq _).trans rfl)) | (show (_ : St) = _; rfl) | grind [snocI, snocS, rowSnoc]))
abbrev P_c_sModD (u : Module) : Prop := CallOK Try.prog 123 [] [moduleA u] [] (.sv (.agg [vI 0, vI 0, vS (mkS []), vL ((modD u).map datumC)]))
theorem run_c_sModD (u : Module) : aexec Try.prog (Option.getD (Func.body Try.f123) Code.skip) (entry [] [moduleA u] 23) [Orc.draw [(11, [18]), (13, [27])], Orc.call [Mode.rd] []
 (AV.sv (SV.agg [vI 0, vI 0, vS (mkS []), vL (List.map datumC (List.map symD (Module.imports u)))])), Orc.call [Mode.rd] [] (AV.sv (SV.agg [vI 0, vI 0, vS (mkS []), vL (List.map
 datumC (List.map symD (Module.exports u)))])), Orc.call [Mode.own false 4] [Ob.dead, Ob.arr false 4 [[cI 1, cI 0, cS (ByteArray.mk #[(109 : UInt8), (111 : UInt8), (100 : UInt8),
 (117 : UInt8), (108 : UInt8), (101 : UInt8)]), Cell.list []], [cI 1, cI 0, cS (Module.name u), Cell.list []], [cI 0, cI 0, cS (mkS []), Cell.list (List.map datumC (List.map symD
 (Module.imports u)))], [cI 0, cI 0, cS (mkS []), Cell.list (List.map datumC (List.map symD (Module.exports u)))]]] (AV.sv (lstR 1)), Orc.ghost (Ghost.lock 28), Orc.fin []] (finK
 Try.prog [ResultVar.cell 2 66] [] (AV.sv (SV.agg [vI 0, vI 0, vS (mkS []), vL (List.map datumC (modD u))]))) = (P_c_sSymbols (Module.imports u) ∧ P_c_sSymbols (Module.exports u) ∧
 P_c_sList [[cI 1, cI 0, cS (ByteArray.mk #[(109 : UInt8), (111 : UInt8), (100 : UInt8), (117 : UInt8), (108 : UInt8), (101 : UInt8)]), Cell.list []], [cI 1, cI 0, cS (Module.name
 u), Cell.list []], [cI 0, cI 0, cS (mkS []), Cell.list (List.map datumC (List.map symD (Module.imports u)))], [cI 0, cI 0, cS (mkS []), Cell.list (List.map datumC (List.map symD
 (Module.exports u)))]] ∧ (∀ (e : List Cell), e ∈ List.map datumC (Module.body u) → List.length e = 4) ∧ (4 + List.length (List.map datumC (Module.body u))) * 56 ≤ 140737488355328
 ∧ ObsEq [] [] ∧ AV.sv (SV.agg [vI 0, vI 0, vS (mkS []), vL ([cI 1, cI 0, cS (ByteArray.mk #[(109 : UInt8), (111 : UInt8), (100 : UInt8), (117 : UInt8), (108 : UInt8), (101 :
 UInt8)]), Cell.list []] :: [cI 1, cI 0, cS (Module.name u), Cell.list []] :: [cI 0, cI 0, cS (mkS []), Cell.list (List.map datumC (List.map symD (Module.imports u)))] :: [cI 0, cI
 0, cS (mkS []), Cell.list (List.map datumC (List.map symD (Module.exports u)))] :: List.map datumC (Module.body u))]) = AV.sv (SV.agg [vI 0, vI 0, vS (mkS []), vL (List.map datumC
 (modD u))])) := by kernel_rfl
theorem c_sModD (u : Module) (h : wM u ≤ 1048576)  : P_c_sModD u := by
  refine CallOK.ofRun wide (run_c_sModD u) Try.call123 Try.func123 rfl rfl rfl ?_
  have g := wM_eq u
  with_reducible repeat' (first | apply And.intro | exact flatI | exact flatS | exact rowLens | (intro; skip) | apply obsN | apply obsC | apply obA | apply obM | apply obB | apply svA | apply tupA | apply lcA | apply lcS | apply svC | apply liC | apply lbC | apply lsC | apply vIc | apply vBc | apply vSc | apply vLc | apply mapC | apply mIc | apply mOc | apply mSc | apply mLc | apply c_sSymbols | apply c_sList)
  all_goals (try simp only [std] at *)
  all_goals (try (first | with_reducible apply c_sSymbols | with_reducible apply c_sList | (simp only [← List.map_append]; first | with_reducible apply c_sSymbols | with_reducible apply c_sList)))
  all_goals (try (first | with_reducible rfl | omega | assumption | (refine (decide_eq_true ?_).symm; assumption) | (refine (decide_eq_false ?_).symm; assumption) | (refine rowGet ?_; (first | omega | (simp only [std]; omega) | grind)) | (refine getC ?_ rfl; (first | omega | (simp only [std]; omega) | grind)) | exact look_mI | exact look_mO | exact look_mO1 | exact look_mS | exact look_mL | exact upd_mI | exact upd_mO | exact del_mO | exact upd_mS | exact take_mL | (refine upd_mL ?_; grind) | (refine fill_step ?_ ?_; (first | omega | (simp only [std]; omega) | grind); (first | rfl | exact (Row.eq _).trans rfl)) | (refine fill_init ?_; (first | rfl | exact (Row.eq _).trans rfl)) | (show (_ : St) = _; rfl) | grind [modD_rows, moduleS, wS, snocI, snocS, rowSnoc]))
abbrev P_c_sIsModule (u : Module) : Prop := CallOK Try.prog 34 [] [moduleA u] [] (.sv (lb (modOK u)))
theorem run_c_sIsModule (u : Module) : aexec Try.prog (Option.getD (Func.body Try.f34) Code.skip) (entry [] [moduleA u] 29) [Orc.call [Mode.rd] [] (AV.sv (lb (isNam (Module.name
 u)))), Orc.br [Orc.call [Mode.rd, Mode.rd, Mode.rd] [] (AV.sv (lb (okN 8 (Module.imports u) && decide ((↑(List.length (Module.imports u)) : Int) ≤ 12)))), Orc.br [Orc.call
 [Mode.rd, Mode.rd, Mode.rd] [] (AV.sv (lb (okN 16 (Module.exports u) && decide ((↑(List.length (Module.exports u)) : Int) ≤ 60)))), Orc.br [Orc.call [Mode.rd, Mode.rd] [] (AV.sv
 (lb (inS (Module.imports u) (Module.name u)))), Orc.br [Orc.call [Mode.rd] [] (AV.sv (SV.agg [vI 0, vI 0, vS (mkS []), vL (List.map datumC (modD u))])), Orc.call [Mode.rd] []
 (AV.sv (lb (isDat (Datum.mk 0 0 (mkS []) (modD u))))), Orc.fin []] [Orc.fin []]] [Orc.bool false, Orc.fin []]] [Orc.bool false, Orc.bool false, Orc.fin []]] [Orc.bool false,
 Orc.bool false, Orc.bool false, Orc.fin []]] (finK Try.prog [ResultVar.tmp 2] [] (AV.sv (lb (modOK u)))) = (P_c_sNam (Module.name u) ∧ (isNam (Module.name u) = true → P_c_sNames
 (Module.imports u) 12 8 ∧ ((okN 8 (Module.imports u) && decide ((↑(List.length (Module.imports u)) : Int) ≤ 12)) = true → P_c_sNames (Module.exports u) 60 16 ∧ ((okN 16
 (Module.exports u) && decide ((↑(List.length (Module.exports u)) : Int) ≤ 60)) = true → P_c_sHasS (Module.imports u) (Module.name u) ∧ ((!inS (Module.imports u) (Module.name u)) =
 true → P_c_sModD u ∧ P_c_sIsDatum (Datum.mk 0 0 (mkS []) (modD u)) ∧ ObsEq [] [] ∧ AV.sv (lb (isDat (Datum.mk 0 0 (mkS []) (modD u)))) = AV.sv (lb (modOK u))) ∧ ((!inS
 (Module.imports u) (Module.name u)) = false → ObsEq [] [] ∧ AV.sv (lb false) = AV.sv (lb (modOK u)))) ∧ ((okN 16 (Module.exports u) && decide ((↑(List.length (Module.exports u)) :
 Int) ≤ 60)) = false → false = false ∧ ObsEq [] [] ∧ AV.sv (lb false) = AV.sv (lb (modOK u)))) ∧ ((okN 8 (Module.imports u) && decide ((↑(List.length (Module.imports u)) : Int) ≤
 12)) = false → false = false ∧ false = false ∧ ObsEq [] [] ∧ AV.sv (lb false) = AV.sv (lb (modOK u)))) ∧ (isNam (Module.name u) = false → false = false ∧ false = false ∧ false =
 false ∧ ObsEq [] [] ∧ AV.sv (lb false) = AV.sv (lb (modOK u)))) := by kernel_rfl
theorem c_sIsModule (u : Module) (h : wM u ≤ 1048576)  : P_c_sIsModule u := by
  refine CallOK.ofRun wide (run_c_sIsModule u) Try.call34 Try.func34 rfl rfl rfl ?_
  with_reducible repeat' (first | apply And.intro | exact flatI | exact flatS | exact rowLens | (intro; skip) | apply obsN | apply obsC | apply obA | apply obM | apply obB | apply svA | apply tupA | apply lcA | apply lcS | apply svC | apply liC | apply lbC | apply lsC | apply vIc | apply vBc | apply vSc | apply vLc | apply mapC | apply mIc | apply mOc | apply mSc | apply mLc | apply c_sNam | apply c_sNames | apply c_sHasS | apply c_sModD | apply c_sIsDatum)
  all_goals (try simp only [std] at *)
  all_goals (try (first | with_reducible apply c_sNam | with_reducible apply c_sNames | with_reducible apply c_sHasS | with_reducible apply c_sModD | with_reducible apply c_sIsDatum | (simp only [← List.map_append]; first | with_reducible apply c_sNam | with_reducible apply c_sNames | with_reducible apply c_sHasS | with_reducible apply c_sModD | with_reducible apply c_sIsDatum)))
  all_goals (try (first | with_reducible rfl | omega | assumption | (refine (decide_eq_true ?_).symm; assumption) | (refine (decide_eq_false ?_).symm; assumption) | (refine rowGet ?_; (first | omega | (simp only [std]; omega) | grind)) | (refine getC ?_ rfl; (first | omega | (simp only [std]; omega) | grind)) | exact look_mI | exact look_mO | exact look_mO1 | exact look_mS | exact look_mL | exact upd_mI | exact upd_mO | exact del_mO | exact upd_mS | exact take_mL | (refine upd_mL ?_; grind) | (refine fill_step ?_ ?_; (first | omega | (simp only [std]; omega) | grind); (first | rfl | exact (Row.eq _).trans rfl)) | (refine fill_init ?_; (first | rfl | exact (Row.eq _).trans rfl)) | (show (_ : St) = _; rfl) | grind [modOK, lstD, snocI, snocS, rowSnoc]))
abbrev P_c_iSymbolOf (s : ByteArray) : Prop := CallOK Try.prog 225 [] [ls s] [] (.sv (.agg [vI 1, vI 0, vS s, .val (.lit (.slice none 0 0))]))
theorem run_c_iSymbolOf (s : ByteArray) : aexec Try.prog (Option.getD (Func.body Try.f225) Code.skip) (entry [] [ls s] 5) [Orc.fin []] (finK Try.prog [ResultVar.cell 2 66] []
 (AV.sv (SV.agg [vI 1, vI 0, vS s, AC.val (Cell.lit (Value.slice none 0 0))]))) = (ObsEq [] [] ∧ AV.sv (SV.agg [vI 1, vI 0, vS s, AC.val (Cell.lit (Value.slice none 0 0))]) = AV.sv
 (SV.agg [vI 1, vI 0, vS s, AC.val (Cell.lit (Value.slice none 0 0))])) := by kernel_rfl
theorem c_iSymbolOf (s : ByteArray)  : P_c_iSymbolOf s := by
  refine CallOK.ofRun wide (run_c_iSymbolOf s) Try.call225 Try.func225 rfl rfl rfl ?_
  with_reducible repeat' (first | apply And.intro | exact flatI | exact flatS | exact rowLens | (intro; skip) | apply obsN | apply obsC | apply obA | apply obM | apply obB | apply svA | apply tupA | apply lcA | apply lcS | apply svC | apply liC | apply lbC | apply lsC | apply vIc | apply vBc | apply vSc | apply vLc | apply mapC | apply mIc | apply mOc | apply mSc | apply mLc)
  all_goals (try simp only [std] at *)
  all_goals (try (first | with_reducible rfl | omega | assumption | (refine (decide_eq_true ?_).symm; assumption) | (refine (decide_eq_false ?_).symm; assumption) | (refine rowGet ?_; (first | omega | (simp only [std]; omega) | grind)) | (refine getC ?_ rfl; (first | omega | (simp only [std]; omega) | grind)) | exact look_mI | exact look_mO | exact look_mO1 | exact look_mS | exact look_mL | exact upd_mI | exact upd_mO | exact del_mO | exact upd_mS | exact take_mL | (refine upd_mL ?_; grind) | (refine fill_step ?_ ?_; (first | omega | (simp only [std]; omega) | grind); (first | rfl | exact (Row.eq _).trans rfl)) | (refine fill_init ?_; (first | rfl | exact (Row.eq _).trans rfl)) | (show (_ : St) = _; rfl) | grind [snocI, snocS, rowSnoc]))
abbrev P_c_iSymbolList (L : List ByteArray) : Prop := CallOK Try.prog 226 [] [ll (L.map strC)] [.arr true 4 ((L.map symD).map datumC)] (.sv (lstR 0))
def Tc_iSymbolListLa (L : List ByteArray) (x0 : SV) (x1 : Ob) : St := St.mk (regsOf 21 [(2, AV.sv (SV.one (AC.ptr 0 0))), (3, AV.sv (SV.one (AC.ptr 1 0))), (6, AV.sv (ll (List.map
 strC L))), (7, AV.sv (li (↑(List.length (List.map strC L)) : Int))), (8, AV.sv x0)]) [Ob.box [vI 0, vI 0, vS (ByteArray.mk #[]), AC.val (Cell.lit (Value.slice none 0 0))], Ob.box
 [vI 0, vI 0, vS (ByteArray.mk #[]), AC.ref 2], x1] 0 
def Lc_iSymbolListLa (L : List ByteArray) (k : Nat) : St := Tc_iSymbolListLa L (li (↑k : Int)) (Ob.arr true 4 (List.map datumC (List.map symD (List.take k L)))) 
def Ic_iSymbolListLa (L : List ByteArray) : Nat → St → Prop := Head (Lc_iSymbolListLa L) (fun k => k ≤ List.length L ∧ List.length L ≤ 9223372036854775807) fun k => List.length L -
 k 
def W0c_iSymbolListLa (L : List ByteArray) (x0 : Ob) : St := St.mk (regsOf 21 [(2, AV.sv (SV.one (AC.ptr 0 0))), (3, AV.sv (SV.one (AC.ptr 1 0)))]) [Ob.box [vI 0, vI 0, vS
 (ByteArray.mk #[]), AC.val (Cell.lit (Value.slice none 0 0))], Ob.box [vI 0, vI 0, vS (ByteArray.mk #[]), AC.ref 2], x0] 0 
def Yc_iSymbolListLa (L : List ByteArray) : List (Prop × AEx × St) := [(True, AEx.exit 0, W0c_iSymbolListLa L (Ob.arr true 4 (List.map datumC (List.map symD L))))]
theorem Hc_iSymbolListLa {L : List ByteArray} {k : Nat} {m : Nat} (h : (fun k => k ≤ List.length L ∧ List.length L ≤ 9223372036854775807) k) (hm : (fun k => List.length L - k) k =
 m) : Ic_iSymbolListLa L m (Lc_iSymbolListLa L k) := hm ▸ Head.mk h
theorem Ec_iSymbolListLa {L : List ByteArray} {k : Nat} {x0 : SV} {x1 : Ob} (h0 : x0 = (li (↑k : Int))) (h1 : x1 = (Ob.arr true 4 (List.map datumC (List.map symD (List.take k
 L))))) : Tc_iSymbolListLa L x0 x1 = Lc_iSymbolListLa L k := by
  rw [h0, h1]
  rfl
theorem EW0c_iSymbolListLa {L : List ByteArray} {x0 y0 : Ob} (h0 : x0 = y0) : W0c_iSymbolListLa L x0 = W0c_iSymbolListLa L y0 := by rw [h0]
theorem run_c_iSymbolListLa (L : List ByteArray) (k : Nat) : aexec Try.prog (loopAt Try.f226 0) (Lc_iSymbolListLa L k) [Orc.br [Orc.cells (strC (List.getD L k default)), Orc.draw
 [(5, [2, 11]), (7, [1])], Orc.call [Mode.rd] [] (AV.sv (SV.agg [vI 1, vI 0, vS (List.getD L k default), AC.val (Cell.lit (Value.slice none 0 0))])), Orc.ghost (Ghost.sel [0, 1,
 12] [2, 3, 6, 7, 8]), Orc.goto (List.length L - (k + 1)) (Lc_iSymbolListLa L (k + 1))] [Orc.ghost (Ghost.sel [0, 1, 2] [2, 3]), Orc.out 0]] (loopK (Ic_iSymbolListLa L)
 (Yc_iSymbolListLa L) (List.length L - k)) = ((decide ((↑k : Int) < (↑(List.length (List.map strC L)) : Int)) = true → (0 ≤ (↑k : Int) ∧ (List.map strC L)[Int.toNat (↑k : Int)]? =
 some [cS (List.getD L k default)]) ∧ P_c_iSymbolOf (List.getD L k default) ∧ (List.length (List.map datumC (List.map symD (List.take k L))) + 1) * 56 ≤ 140737488355328 ∧ rng
 IntKind.i64 ((↑k : Int) + 1) ∧ List.length L - (k + 1) < List.length L - k ∧ Tc_iSymbolListLa L (li ((↑k : Int) + 1)) (Ob.arr true 4 (List.map datumC (List.map symD (List.take k
 L)) ++ [[cI 1, cI 0, cS (List.getD L k default), Cell.list []]])) = Lc_iSymbolListLa L (k + 1) ∧ Ic_iSymbolListLa L (List.length L - (k + 1)) (Lc_iSymbolListLa L (k + 1))) ∧
 (decide ((↑k : Int) < (↑(List.length (List.map strC L)) : Int)) = false → True ∧ W0c_iSymbolListLa L (Ob.arr true 4 (List.map datumC (List.map symD (List.take k L)))) =
 W0c_iSymbolListLa L (Ob.arr true 4 (List.map datumC (List.map symD L))))) := by kernel_rfl
theorem Sc_iSymbolListLa (L : List ByteArray) (h : List.length L ≤ 2147483647)  : LoopSem Try.prog (loopAt Try.f226 0) (Ic_iSymbolListLa L) (Yc_iSymbolListLa L) := by
  refine LoopSem.ofHead wide fun k h => ⟨_, _, run_c_iSymbolListLa L k, ?_⟩
  with_reducible repeat' (first | apply And.intro | exact flatI | exact flatS | exact rowLens | (intro; skip) | apply obsN | apply obsC | apply obA | apply obM | apply obB | apply svA | apply tupA | apply lcA | apply lcS | apply svC | apply liC | apply lbC | apply lsC | apply vIc | apply vBc | apply vSc | apply vLc | apply mapC | apply mIc | apply mOc | apply mSc | apply mLc | apply Hc_iSymbolListLa | apply Ec_iSymbolListLa | apply EW0c_iSymbolListLa | apply c_iSymbolOf)
  all_goals (try simp only [std] at *)
  all_goals (try (first | with_reducible apply c_iSymbolOf | (simp only [← List.map_append]; first | with_reducible apply c_iSymbolOf)))
  all_goals (try (first | with_reducible rfl | omega | assumption | (refine (decide_eq_true ?_).symm; assumption) | (refine (decide_eq_false ?_).symm; assumption) | (refine rowGet ?_; (first | omega | (simp only [std]; omega) | grind)) | (refine getC ?_ rfl; (first | omega | (simp only [std]; omega) | grind)) | exact look_mI | exact look_mO | exact look_mO1 | exact look_mS | exact look_mL | exact upd_mI | exact upd_mO | exact del_mO | exact upd_mS | exact take_mL | (refine upd_mL ?_; grind) | (refine fill_step ?_ ?_; (first | omega | (simp only [std]; omega) | grind); (first | rfl | exact (Row.eq _).trans rfl)) | (refine fill_init ?_; (first | rfl | exact (Row.eq _).trans rfl)) | (show (_ : St) = _; rfl) | grind [take_get, sym_snoc, snocI, snocS, rowSnoc, getD_mem']))
theorem run_c_iSymbolList (L : List ByteArray) : aexec Try.prog (Option.getD (Func.body Try.f226) Code.skip) (entry [] [ll (List.map strC L)] 21) [Orc.ghost (Ghost.nilbox 1 3 true
 4), Orc.ghost (Ghost.sel [0, 1, 2] [2, 3, 6, 7, 8]), Orc.loop (List.length L - 0) (Lc_iSymbolListLa L 0) (Ic_iSymbolListLa L) [(True, AEx.exit 0, W0c_iSymbolListLa L (Ob.arr true
 4 (List.map datumC (List.map symD L))), [Orc.fin [2]])]] (finK Try.prog [ResultVar.cell 2 66] [Ob.arr true 4 (List.map datumC (List.map symD L))] (AV.sv (lstR 0))) = (List.length
 (List.map strC L) ≤ 9223372036854775807 → Tc_iSymbolListLa L (li 0) (Ob.arr true 4 []) = Lc_iSymbolListLa L 0 ∧ Ic_iSymbolListLa L (List.length L - 0) (Lc_iSymbolListLa L 0) ∧
 LoopSem Try.prog (loopAt Try.f226 0) (Ic_iSymbolListLa L) (Yc_iSymbolListLa L) ∧ (True → ObsEq [Ob.arr true 4 (List.map datumC (List.map symD L))] [Ob.arr true 4 (List.map datumC
 (List.map symD L))] ∧ AV.sv (SV.agg [vI 0, vI 0, vS (ByteArray.mk #[]), AC.ref 0]) = AV.sv (SV.agg [vI 0, vI 0, vS (mkS []), AC.ref 0])) ∧ True) := by kernel_rfl
theorem c_iSymbolList (L : List ByteArray) (h : L.length ≤ 2147483647)  : P_c_iSymbolList L := by
  refine CallOK.ofRun wide (run_c_iSymbolList L) Try.call226 Try.func226 rfl rfl rfl ?_
  with_reducible repeat' (first | apply And.intro | exact flatI | exact flatS | exact rowLens | (intro; skip) | apply obsN | apply obsC | apply obA | apply obM | apply obB | apply svA | apply tupA | apply lcA | apply lcS | apply svC | apply liC | apply lbC | apply lsC | apply vIc | apply vBc | apply vSc | apply vLc | apply mapC | apply mIc | apply mOc | apply mSc | apply mLc | apply Hc_iSymbolListLa | apply Ec_iSymbolListLa | apply Sc_iSymbolListLa | apply EW0c_iSymbolListLa | apply c_iSymbolOf)
  all_goals (try simp only [std] at *)
  all_goals (try (first | with_reducible apply c_iSymbolOf | (simp only [← List.map_append]; first | with_reducible apply c_iSymbolOf)))
  all_goals (try (first | with_reducible rfl | omega | assumption | (refine (decide_eq_true ?_).symm; assumption) | (refine (decide_eq_false ?_).symm; assumption) | (refine rowGet ?_; (first | omega | (simp only [std]; omega) | grind)) | (refine getC ?_ rfl; (first | omega | (simp only [std]; omega) | grind)) | exact look_mI | exact look_mO | exact look_mO1 | exact look_mS | exact look_mL | exact upd_mI | exact upd_mO | exact del_mO | exact upd_mS | exact take_mL | (refine upd_mL ?_; grind) | (refine fill_step ?_ ?_; (first | omega | (simp only [std]; omega) | grind); (first | rfl | exact (Row.eq _).trans rfl)) | (refine fill_init ?_; (first | rfl | exact (Row.eq _).trans rfl)) | (show (_ : St) = _; rfl) | grind [snocI, snocS, rowSnoc]))
abbrev P_c_iCopyData (L : List Datum) : Prop := CallOK Try.prog 144 [] [ll (L.map datumC)] [.arr true 4 (L.map datumC)] (.sv (.one (.ref 0)))
abbrev P_c_iCopyDatum (x : Datum) : Prop := CallOK Try.prog 233 [] [datumA x] (datumO x) (.sv (datumR x 0))
def Tc_iCopyDataLa (L : List Datum) (x0 : SV) (x1 : Ob) : St := St.mk (regsOf 19 [(3, AV.sv (SV.one (AC.ref 0))), (6, AV.sv (ll (List.map datumC L))), (7, AV.sv (li (↑(List.length
 (List.map datumC L)) : Int))), (8, AV.sv x0)]) [x1] 0 
def Lc_iCopyDataLa (L : List Datum) (k : Nat) : St := Tc_iCopyDataLa L (li (↑k : Int)) (Ob.arr true 4 (List.map datumC (List.take k L))) 
def Ic_iCopyDataLa (L : List Datum) : Nat → St → Prop := Head (Lc_iCopyDataLa L) (fun k => k ≤ List.length L ∧ List.length L ≤ 9223372036854775807) fun k => List.length L - k 
def W0c_iCopyDataLa (L : List Datum) (x0 : Ob) : St := St.mk (regsOf 19 [(3, AV.sv (SV.one (AC.ref 0)))]) [x0] 0 
def Yc_iCopyDataLa (L : List Datum) : List (Prop × AEx × St) := [(True, AEx.exit 0, W0c_iCopyDataLa L (Ob.arr true 4 (List.map datumC L)))]
theorem Hc_iCopyDataLa {L : List Datum} {k : Nat} {m : Nat} (h : (fun k => k ≤ List.length L ∧ List.length L ≤ 9223372036854775807) k) (hm : (fun k => List.length L - k) k = m) :
 Ic_iCopyDataLa L m (Lc_iCopyDataLa L k) := hm ▸ Head.mk h
theorem Ec_iCopyDataLa {L : List Datum} {k : Nat} {x0 : SV} {x1 : Ob} (h0 : x0 = (li (↑k : Int))) (h1 : x1 = (Ob.arr true 4 (List.map datumC (List.take k L)))) : Tc_iCopyDataLa L
 x0 x1 = Lc_iCopyDataLa L k := by
  rw [h0, h1]
  rfl
theorem EW0c_iCopyDataLa {L : List Datum} {x0 y0 : Ob} (h0 : x0 = y0) : W0c_iCopyDataLa L x0 = W0c_iCopyDataLa L y0 := by rw [h0]
theorem run_c_iCopyDataLa (L : List Datum) (k : Nat) : aexec Try.prog (loopAt Try.f144 0) (Lc_iCopyDataLa L k) [Orc.br [Orc.cells (datumF (List.getD L k default)), Orc.call
 [Mode.rd] (datumO (List.getD L k default)) (AV.sv (datumR (List.getD L k default) 0)), Orc.ghost (Ghost.sel [4] [3, 6, 7, 8]), Orc.goto (List.length L - (k + 1)) (Lc_iCopyDataLa L
 (k + 1))] [Orc.ghost (Ghost.sel [0] [3]), Orc.out 0]] (loopK (Ic_iCopyDataLa L) (Yc_iCopyDataLa L) (List.length L - k)) = ((decide ((↑k : Int) < (↑(List.length (List.map datumC
 L)) : Int)) = true → (0 ≤ (↑k : Int) ∧ (List.map datumC L)[Int.toNat (↑k : Int)]? = some (datumF (List.getD L k default))) ∧ P_c_iCopyDatum (List.getD L k default) ∧ (List.length
 (List.map datumC (List.take k L)) + 1) * 56 ≤ 140737488355328 ∧ rng IntKind.i64 ((↑k : Int) + 1) ∧ List.length L - (k + 1) < List.length L - k ∧ Tc_iCopyDataLa L (li ((↑k : Int) +
 1)) (Ob.arr true 4 (List.map datumC (List.take k L) ++ [datumF (List.getD L k default)])) = Lc_iCopyDataLa L (k + 1) ∧ Ic_iCopyDataLa L (List.length L - (k + 1)) (Lc_iCopyDataLa L
 (k + 1))) ∧ (decide ((↑k : Int) < (↑(List.length (List.map datumC L)) : Int)) = false → True ∧ W0c_iCopyDataLa L (Ob.arr true 4 (List.map datumC (List.take k L))) =
 W0c_iCopyDataLa L (Ob.arr true 4 (List.map datumC L)))) := by kernel_rfl
theorem Sc_iCopyDataLa (L : List Datum) (h : List.length L + sumBy wD L ≤ 1048576) (ih : ∀ (x : Datum), x ∈ L → wD x ≤ 1048576 → P_c_iCopyDatum x)  : LoopSem Try.prog (loopAt
 Try.f144 0) (Ic_iCopyDataLa L) (Yc_iCopyDataLa L) := by
  refine LoopSem.ofHead wide fun k h => ⟨_, _, run_c_iCopyDataLa L k, ?_⟩
  have g := @sumBy_mem _ wD L (L.getD k default)
  with_reducible repeat' (first | apply And.intro | exact flatI | exact flatS | exact rowLens | exact ih | (intro; skip) | apply obsN | apply obsC | apply obA | apply obM | apply obB | apply svA | apply tupA | apply lcA | apply lcS | apply svC | apply liC | apply lbC | apply lsC | apply vIc | apply vBc | apply vSc | apply vLc | apply mapC | apply mIc | apply mOc | apply mSc | apply mLc | apply Hc_iCopyDataLa | apply Ec_iCopyDataLa | apply EW0c_iCopyDataLa | apply ih)
  all_goals (try simp only [std] at *)
  all_goals (try (first | with_reducible apply ih | (simp only [← List.map_append]; first | with_reducible apply ih)))
  all_goals (try (first | with_reducible rfl | omega | assumption | (refine (decide_eq_true ?_).symm; assumption) | (refine (decide_eq_false ?_).symm; assumption) | (refine rowGet ?_; (first | omega | (simp only [std]; omega) | grind)) | (refine getC ?_ rfl; (first | omega | (simp only [std]; omega) | grind)) | exact look_mI | exact look_mO | exact look_mO1 | exact look_mS | exact look_mL | exact upd_mI | exact upd_mO | exact del_mO | exact upd_mS | exact take_mL | (refine upd_mL ?_; grind) | (refine fill_step ?_ ?_; (first | omega | (simp only [std]; omega) | grind); (first | rfl | exact (Row.eq _).trans rfl)) | (refine fill_init ?_; (first | rfl | exact (Row.eq _).trans rfl)) | (show (_ : St) = _; rfl) | grind [take_get, getD_mem', snocI, snocS, rowSnoc, getD_mem']))
theorem run_c_iCopyData (L : List Datum) : aexec Try.prog (Option.getD (Func.body Try.f144) Code.skip) (entry [] [ll (List.map datumC L)] 19) [Orc.ghost (Ghost.nilreg 3 true 4),
 Orc.ghost (Ghost.sel [0] [3, 6, 7, 8]), Orc.loop (List.length L - 0) (Lc_iCopyDataLa L 0) (Ic_iCopyDataLa L) [(True, AEx.exit 0, W0c_iCopyDataLa L (Ob.arr true 4 (List.map datumC
 L)), [Orc.fin [0]])]] (finK Try.prog [ResultVar.tmp 2] [Ob.arr true 4 (List.map datumC L)] (AV.sv (SV.one (AC.ref 0)))) = (List.length (List.map datumC L) ≤ 9223372036854775807 →
 Tc_iCopyDataLa L (li 0) (Ob.arr true 4 []) = Lc_iCopyDataLa L 0 ∧ Ic_iCopyDataLa L (List.length L - 0) (Lc_iCopyDataLa L 0) ∧ LoopSem Try.prog (loopAt Try.f144 0) (Ic_iCopyDataLa
 L) (Yc_iCopyDataLa L) ∧ (True → ObsEq [Ob.arr true 4 (List.map datumC L)] [Ob.arr true 4 (List.map datumC L)] ∧ AV.sv (SV.one (AC.ref 0)) = AV.sv (SV.one (AC.ref 0))) ∧ True) :=
 by kernel_rfl
theorem c_iCopyData (L : List Datum) (h : L.length + sumBy wD L ≤ 1048576) (ih : ∀ x ∈ L, ∀ (h : wD x ≤ 1048576), P_c_iCopyDatum x)  : P_c_iCopyData L := by
  refine CallOK.ofRun wide (run_c_iCopyData L) Try.call144 Try.func144 rfl rfl rfl ?_
  with_reducible repeat' (first | apply And.intro | exact flatI | exact flatS | exact rowLens | exact ih | (intro; skip) | apply obsN | apply obsC | apply obA | apply obM | apply obB | apply svA | apply tupA | apply lcA | apply lcS | apply svC | apply liC | apply lbC | apply lsC | apply vIc | apply vBc | apply vSc | apply vLc | apply mapC | apply mIc | apply mOc | apply mSc | apply mLc | apply Hc_iCopyDataLa | apply Ec_iCopyDataLa | apply Sc_iCopyDataLa | apply EW0c_iCopyDataLa)
  all_goals (try simp only [std] at *)
  all_goals (try (first | with_reducible apply ih | (simp only [← List.map_append]; first | with_reducible apply ih)))
  all_goals (try (first | with_reducible rfl | omega | assumption | (refine (decide_eq_true ?_).symm; assumption) | (refine (decide_eq_false ?_).symm; assumption) | (refine rowGet ?_; (first | omega | (simp only [std]; omega) | grind)) | (refine getC ?_ rfl; (first | omega | (simp only [std]; omega) | grind)) | exact look_mI | exact look_mO | exact look_mO1 | exact look_mS | exact look_mL | exact upd_mI | exact upd_mO | exact del_mO | exact upd_mS | exact take_mL | (refine upd_mL ?_; grind) | (refine fill_step ?_ ?_; (first | omega | (simp only [std]; omega) | grind); (first | rfl | exact (Row.eq _).trans rfl)) | (refine fill_init ?_; (first | rfl | exact (Row.eq _).trans rfl)) | (show (_ : St) = _; rfl) | grind [snocI, snocS, rowSnoc]))
theorem run_c_iCopyDatum_s (x : Datum) : aexec Try.prog (Option.getD (Func.body Try.f233) Code.skip) (entry [] [datumA x] 8) [Orc.call [Mode.rd] [Ob.arr true 4 (List.map datumC
 (Datum.items x))] (AV.sv (SV.one (AC.ref 0))), Orc.fin [2]] (finK Try.prog [ResultVar.cell 2 66] (datumO x) (AV.sv (datumR x 0))) = (P_c_iCopyData (Datum.items x) ∧ ObsEq [Ob.arr
 true 4 (List.map datumC (Datum.items x))] [Ob.arr true 4 (List.map datumC (Datum.items x))] ∧ AV.sv (SV.agg [vI (Datum.kind x), vI (Datum.number x), vS (Datum.text x), AC.ref 0])
 = AV.sv (SV.agg [vI (Datum.kind x), vI (Datum.number x), vS (Datum.text x), AC.ref 0])) := by kernel_rfl
theorem c_iCopyDatum_s (x : Datum) (h : wD x ≤ 1048576) (ih : ∀ z ∈ x.items, ∀ (h : wD z ≤ 1048576), P_c_iCopyDatum z)  : P_c_iCopyDatum x := by
  refine CallOK.ofRun wide (run_c_iCopyDatum_s x) Try.call233 Try.func233 rfl rfl rfl ?_
  have g := wD_eq x
  with_reducible repeat' (first | apply And.intro | exact flatI | exact flatS | exact rowLens | exact ih | (intro; skip) | apply obsN | apply obsC | apply obA | apply obM | apply obB | apply svA | apply tupA | apply lcA | apply lcS | apply svC | apply liC | apply lbC | apply lsC | apply vIc | apply vBc | apply vSc | apply vLc | apply mapC | apply mIc | apply mOc | apply mSc | apply mLc | apply c_iCopyData | apply ih)
  all_goals (try simp only [std] at *)
  all_goals (try (first | with_reducible apply c_iCopyData | with_reducible apply ih | (simp only [← List.map_append]; first | with_reducible apply c_iCopyData | with_reducible apply ih)))
  all_goals (try (first | with_reducible rfl | omega | assumption | (refine (decide_eq_true ?_).symm; assumption) | (refine (decide_eq_false ?_).symm; assumption) | (refine rowGet ?_; (first | omega | (simp only [std]; omega) | grind)) | (refine getC ?_ rfl; (first | omega | (simp only [std]; omega) | grind)) | exact look_mI | exact look_mO | exact look_mO1 | exact look_mS | exact look_mL | exact upd_mI | exact upd_mO | exact del_mO | exact upd_mS | exact take_mL | (refine upd_mL ?_; grind) | (refine fill_step ?_ ?_; (first | omega | (simp only [std]; omega) | grind); (first | rfl | exact (Row.eq _).trans rfl)) | (refine fill_init ?_; (first | rfl | exact (Row.eq _).trans rfl)) | (show (_ : St) = _; rfl) | grind [snocI, snocS, rowSnoc]))
theorem c_iCopyDatum (x : Datum) : ∀ (h : wD x ≤ 1048576), P_c_iCopyDatum x := Datum.ind (P := fun x => ∀ (h : wD x ≤ 1048576), P_c_iCopyDatum x) (fun x ih h => c_iCopyDatum_s x h ih) x
abbrev P_c_iModD (u : Module) : Prop := CallOK Try.prog 129 [] [moduleA u] [.arr true 4 ((modD u).map datumC)] (.sv (lstR 0))
theorem run_c_iModD (u : Module) : aexec Try.prog (Option.getD (Func.body Try.f129) Code.skip) (entry [] [moduleA u] 21) [Orc.draw [(10, [18, 26])], Orc.call [Mode.rd] [] (AV.sv
 (SV.agg [vI 1, vI 0, vS (ByteArray.mk #[(109 : UInt8), (111 : UInt8), (100 : UInt8), (117 : UInt8), (108 : UInt8), (101 : UInt8)]), AC.val (Cell.lit (Value.slice none 0 0))])),
 Orc.call [Mode.rd] [] (AV.sv (SV.agg [vI 1, vI 0, vS (Module.name u), AC.val (Cell.lit (Value.slice none 0 0))])), Orc.call [Mode.rd] [Ob.arr true 4 (List.map datumC (List.map
 symD (Module.imports u)))] (AV.sv (lstR 0)), Orc.call [Mode.rd] [Ob.arr true 4 (List.map datumC (List.map symD (Module.exports u)))] (AV.sv (lstR 0)), Orc.call [Mode.rd] [Ob.arr
 true 4 (List.map datumC (Module.body u))] (AV.sv (SV.one (AC.ref 0))), Orc.fin [36]] (finK Try.prog [ResultVar.cell 2 66] [Ob.arr true 4 (List.map datumC (modD u))] (AV.sv (lstR
 0))) = (P_c_iSymbolOf (ByteArray.mk #[(109 : UInt8), (111 : UInt8), (100 : UInt8), (117 : UInt8), (108 : UInt8), (101 : UInt8)]) ∧ P_c_iSymbolOf (Module.name u) ∧ P_c_iSymbolList
 (Module.imports u) ∧ P_c_iSymbolList (Module.exports u) ∧ P_c_iCopyData (Module.body u) ∧ (4 + List.length (List.map datumC (Module.body u))) * 56 ≤ 140737488355328 ∧ ObsEq
 [Ob.arr true 4 ([cI 1, cI 0, cS (ByteArray.mk #[(109 : UInt8), (111 : UInt8), (100 : UInt8), (117 : UInt8), (108 : UInt8), (101 : UInt8)]), Cell.list []] :: [cI 1, cI 0, cS
 (Module.name u), Cell.list []] :: [cI 0, cI 0, cS (mkS []), Cell.list (List.map datumC (List.map symD (Module.imports u)))] :: [cI 0, cI 0, cS (mkS []), Cell.list (List.map datumC
 (List.map symD (Module.exports u)))] :: List.map datumC (Module.body u))] [Ob.arr true 4 (List.map datumC (modD u))] ∧ AV.sv (SV.agg [vI 0, vI 0, vS (ByteArray.mk #[]), AC.ref 0])
 = AV.sv (SV.agg [vI 0, vI 0, vS (mkS []), AC.ref 0])) := by kernel_rfl
theorem c_iModD (u : Module) (h : wM u ≤ 1048576)  : P_c_iModD u := by
  refine CallOK.ofRun wide (run_c_iModD u) Try.call129 Try.func129 rfl rfl rfl ?_
  have g := wM_eq u
  with_reducible repeat' (first | apply And.intro | exact flatI | exact flatS | exact rowLens | (intro; skip) | apply obsN | apply obsC | apply obA | apply obM | apply obB | apply svA | apply tupA | apply lcA | apply lcS | apply svC | apply liC | apply lbC | apply lsC | apply vIc | apply vBc | apply vSc | apply vLc | apply mapC | apply mIc | apply mOc | apply mSc | apply mLc | apply c_iSymbolOf | apply c_iSymbolList | apply c_iCopyData | apply c_iCopyDatum)
  all_goals (try simp only [std] at *)
  all_goals (try (first | with_reducible apply c_iSymbolOf | with_reducible apply c_iSymbolList | with_reducible apply c_iCopyData | with_reducible apply c_iCopyDatum | (simp only [← List.map_append]; first | with_reducible apply c_iSymbolOf | with_reducible apply c_iSymbolList | with_reducible apply c_iCopyData | with_reducible apply c_iCopyDatum)))
  all_goals (try (first | with_reducible rfl | omega | assumption | (refine (decide_eq_true ?_).symm; assumption) | (refine (decide_eq_false ?_).symm; assumption) | (refine rowGet ?_; (first | omega | (simp only [std]; omega) | grind)) | (refine getC ?_ rfl; (first | omega | (simp only [std]; omega) | grind)) | exact look_mI | exact look_mO | exact look_mO1 | exact look_mS | exact look_mL | exact upd_mI | exact upd_mO | exact del_mO | exact upd_mS | exact take_mL | (refine upd_mL ?_; grind) | (refine fill_step ?_ ?_; (first | omega | (simp only [std]; omega) | grind); (first | rfl | exact (Row.eq _).trans rfl)) | (refine fill_init ?_; (first | rfl | exact (Row.eq _).trans rfl)) | (show (_ : St) = _; rfl) | grind [modD_rows, moduleS, wS, snocI, snocS, rowSnoc]))
abbrev P_c_iIsModule (u : Module) : Prop := CallOK Try.prog 36 [] [moduleA u] [] (.sv (lb (modOK u)))
def Tc_iIsModuleLb (u : Module) (x0 : SV) (x1 : Ob) : St := St.mk (regsOf 70 [(1, AV.sv (SV.one (AC.ptr 0 0))), (3, AV.sv (SV.one (AC.mref 1))), (49, AV.sv (ll (List.map strC
 (Module.exports u)))), (50, AV.sv (li (↑(List.length (List.map strC (Module.exports u))) : Int))), (51, AV.sv x0)]) [Ob.box (vals (moduleF u)), x1] 0 
def Lc_iIsModuleLb (u : Module) (k : Nat) : St := Tc_iIsModuleLb u (li (↑k : Int)) (Ob.map false kS (mS (memS (List.take k (Module.exports u))))) 
def Ic_iIsModuleLb (u : Module) : Nat → St → Prop := Head (Lc_iIsModuleLb u) (fun k => k ≤ List.length (Module.exports u) ∧ List.length (Module.exports u) ≤ 9223372036854775807 ∧
 okN 16 (List.take k (Module.exports u)) = true) fun k => List.length (Module.exports u) - k 
def W0c_iIsModuleLb (u : Module) : St := St.mk (regsOf 70 [(1, AV.sv (SV.one (AC.ptr 0 0)))]) [Ob.box (vals (moduleF u))] 0 
def W1c_iIsModuleLb (u : Module) (x0 : SV) : St := St.mk (regsOf 70 [(2, AV.sv x0)]) [] 0 
def Yc_iIsModuleLb (u : Module) : List (Prop × AEx × St) := [(okN 16 (Module.exports u) = true, AEx.exit 2, W0c_iIsModuleLb u), (okN 16 (Module.exports u) = false, AEx.ret,
 W1c_iIsModuleLb u (lb false))]
def Tc_iIsModuleLa (u : Module) (x0 : SV) (x1 : Ob) : St := St.mk (regsOf 70 [(1, AV.sv (SV.one (AC.ptr 0 0))), (3, AV.sv (SV.one (AC.mref 1))), (29, AV.sv (ll (List.map strC
 (Module.imports u)))), (30, AV.sv (li (↑(List.length (List.map strC (Module.imports u))) : Int))), (31, AV.sv x0)]) [Ob.box (vals (moduleF u)), x1] 0 
def Lc_iIsModuleLa (u : Module) (k : Nat) : St := Tc_iIsModuleLa u (li (↑k : Int)) (Ob.map false kS (mS (memS ([Module.name u] ++ List.take k (Module.imports u))))) 
def Ic_iIsModuleLa (u : Module) : Nat → St → Prop := Head (Lc_iIsModuleLa u) (fun k => k ≤ List.length (Module.imports u) ∧ List.length (Module.imports u) ≤ 9223372036854775807 ∧
 okN 8 (List.take k (Module.imports u)) = true ∧ inS (List.take k (Module.imports u)) (Module.name u) = false) fun k => List.length (Module.imports u) - k 
def W0c_iIsModuleLa (u : Module) : St := St.mk (regsOf 70 [(1, AV.sv (SV.one (AC.ptr 0 0)))]) [Ob.box (vals (moduleF u))] 0 
def W1c_iIsModuleLa (u : Module) (x0 : SV) : St := St.mk (regsOf 70 [(2, AV.sv x0)]) [] 0 
def Yc_iIsModuleLa (u : Module) : List (Prop × AEx × St) := [(okN 8 (Module.imports u) = true ∧ inS (Module.imports u) (Module.name u) = false, AEx.exit 0, W0c_iIsModuleLa u),
 ((okN 8 (Module.imports u) && !inS (Module.imports u) (Module.name u)) = false, AEx.ret, W1c_iIsModuleLa u (lb false))]
theorem Hc_iIsModuleLb {u : Module} {k : Nat} {m : Nat} (h : (fun k => k ≤ List.length (Module.exports u) ∧ List.length (Module.exports u) ≤ 9223372036854775807 ∧ okN 16 (List.take
 k (Module.exports u)) = true) k) (hm : (fun k => List.length (Module.exports u) - k) k = m) : Ic_iIsModuleLb u m (Lc_iIsModuleLb u k) := hm ▸ Head.mk h
theorem Ec_iIsModuleLb {u : Module} {k : Nat} {x0 : SV} {x1 : Ob} (h0 : x0 = (li (↑k : Int))) (h1 : x1 = (Ob.map false kS (mS (memS (List.take k (Module.exports u)))))) :
 Tc_iIsModuleLb u x0 x1 = Lc_iIsModuleLb u k := by
  rw [h0, h1]
  rfl
theorem EW1c_iIsModuleLb {u : Module} {x0 y0 : SV} (h0 : x0 = y0) : W1c_iIsModuleLb u x0 = W1c_iIsModuleLb u y0 := by rw [h0]
theorem run_c_iIsModuleLb (u : Module) (k : Nat) : aexec Try.prog (loopAt Try.f36 1) (Lc_iIsModuleLb u k) [Orc.br [Orc.cells (strC (List.getD (Module.exports u) k default)),
 Orc.call [Mode.rd] [] (AV.sv (lb (isSym (List.getD (Module.exports u) k default)))), Orc.br [Orc.bool true, Orc.ghost (Ghost.sel [] [2]), Orc.out 1] [Orc.cells [cI (memS
 (List.take k (Module.exports u)) (List.getD (Module.exports u) k default))], Orc.br [Orc.ghost (Ghost.sel [] [2]), Orc.out 1] [Orc.upd (mS (upd1 (memS (List.take k (Module.exports
 u))) (List.getD (Module.exports u) k default) 1)), Orc.ghost (Ghost.sel [0, 1] [1, 3, 49, 50, 51]), Orc.goto (List.length (Module.exports u) - (k + 1)) (Lc_iIsModuleLb u (k +
 1))]]] [Orc.ghost (Ghost.sel [0] [1]), Orc.out 0]] (loopK (Ic_iIsModuleLb u) (Yc_iIsModuleLb u) (List.length (Module.exports u) - k)) = ((decide ((↑k : Int) < (↑(List.length
 (List.map strC (Module.exports u))) : Int)) = true → (0 ≤ (↑k : Int) ∧ (List.map strC (Module.exports u))[Int.toNat (↑k : Int)]? = some [cS (List.getD (Module.exports u) k
 default)]) ∧ P_c_iIsSymbol (List.getD (Module.exports u) k default) ∧ ((!isSym (List.getD (Module.exports u) k default)) = true → true = true ∧ okN 16 (Module.exports u) = false ∧
 W1c_iIsModuleLa u (lb false) = W1c_iIsModuleLb u (lb false)) ∧ ((!isSym (List.getD (Module.exports u) k default)) = false → LookAt (Value.int IntKind.i64 0) (mS (memS (List.take k
 (Module.exports u)))) (Value.string (List.getD (Module.exports u) k default)) (cI (memS (List.take k (Module.exports u)) (List.getD (Module.exports u) k default))) ∧ (decide (memS
 (List.take k (Module.exports u)) (List.getD (Module.exports u) k default) = 1) = true → okN 16 (Module.exports u) = false ∧ W1c_iIsModuleLa u (lb false) = W1c_iIsModuleLb u (lb
 false)) ∧ (decide (memS (List.take k (Module.exports u)) (List.getD (Module.exports u) k default) = 1) = false → false = false ∧ UpdF (MK.d kS) (mS (memS (List.take k
 (Module.exports u)))) (mS (upd1 (memS (List.take k (Module.exports u))) (List.getD (Module.exports u) k default) 1)) (Value.string (List.getD (Module.exports u) k default)) (some
 (cI 1)) ∧ rng IntKind.i64 ((↑k : Int) + 1) ∧ List.length (Module.exports u) - (k + 1) < List.length (Module.exports u) - k ∧ Tc_iIsModuleLb u (li ((↑k : Int) + 1)) (Ob.map false
 kS (mS (upd1 (memS (List.take k (Module.exports u))) (List.getD (Module.exports u) k default) 1))) = Lc_iIsModuleLb u (k + 1) ∧ Ic_iIsModuleLb u (List.length (Module.exports u) -
 (k + 1)) (Lc_iIsModuleLb u (k + 1))))) ∧ (decide ((↑k : Int) < (↑(List.length (List.map strC (Module.exports u))) : Int)) = false → okN 16 (Module.exports u) = true ∧
 W0c_iIsModuleLa u = W0c_iIsModuleLb u)) := by kernel_rfl
theorem Hc_iIsModuleLa {u : Module} {k : Nat} {m : Nat} (h : (fun k => k ≤ List.length (Module.imports u) ∧ List.length (Module.imports u) ≤ 9223372036854775807 ∧ okN 8 (List.take
 k (Module.imports u)) = true ∧ inS (List.take k (Module.imports u)) (Module.name u) = false) k) (hm : (fun k => List.length (Module.imports u) - k) k = m) : Ic_iIsModuleLa u m
 (Lc_iIsModuleLa u k) := hm ▸ Head.mk h
theorem Ec_iIsModuleLa {u : Module} {k : Nat} {x0 : SV} {x1 : Ob} (h0 : x0 = (li (↑k : Int))) (h1 : x1 = (Ob.map false kS (mS (memS ([Module.name u] ++ List.take k (Module.imports
 u)))))) : Tc_iIsModuleLa u x0 x1 = Lc_iIsModuleLa u k := by
  rw [h0, h1]
  rfl
theorem EW1c_iIsModuleLa {u : Module} {x0 y0 : SV} (h0 : x0 = y0) : W1c_iIsModuleLa u x0 = W1c_iIsModuleLa u y0 := by rw [h0]
theorem run_c_iIsModuleLa (u : Module) (k : Nat) : aexec Try.prog (loopAt Try.f36 0) (Lc_iIsModuleLa u k) [Orc.br [Orc.cells (strC (List.getD (Module.imports u) k default)),
 Orc.call [Mode.rd] [] (AV.sv (lb (isNam (List.getD (Module.imports u) k default)))), Orc.br [Orc.bool true, Orc.ghost (Ghost.sel [] [2]), Orc.out 1] [Orc.cells [cI (memS
 (Module.name u :: List.take k (Module.imports u)) (List.getD (Module.imports u) k default))], Orc.br [Orc.ghost (Ghost.sel [] [2]), Orc.out 1] [Orc.upd (mS (upd1 (memS
 (Module.name u :: List.take k (Module.imports u))) (List.getD (Module.imports u) k default) 1)), Orc.ghost (Ghost.sel [0, 1] [1, 3, 29, 30, 31]), Orc.goto (List.length
 (Module.imports u) - (k + 1)) (Lc_iIsModuleLa u (k + 1))]]] [Orc.ghost (Ghost.sel [0] [1]), Orc.out 0]] (loopK (Ic_iIsModuleLa u) (Yc_iIsModuleLa u) (List.length (Module.imports
 u) - k)) = ((decide ((↑k : Int) < (↑(List.length (List.map strC (Module.imports u))) : Int)) = true → (0 ≤ (↑k : Int) ∧ (List.map strC (Module.imports u))[Int.toNat (↑k : Int)]? =
 some [cS (List.getD (Module.imports u) k default)]) ∧ P_c_iNam (List.getD (Module.imports u) k default) ∧ ((!isNam (List.getD (Module.imports u) k default)) = true → true = true ∧
 (okN 8 (Module.imports u) && !inS (Module.imports u) (Module.name u)) = false ∧ W1c_iIsModuleLa u (lb false) = W1c_iIsModuleLa u (lb false)) ∧ ((!isNam (List.getD (Module.imports
 u) k default)) = false → LookAt (Value.int IntKind.i64 0) (mS (memS (Module.name u :: List.take k (Module.imports u)))) (Value.string (List.getD (Module.imports u) k default)) (cI
 (memS (Module.name u :: List.take k (Module.imports u)) (List.getD (Module.imports u) k default))) ∧ (decide (memS (Module.name u :: List.take k (Module.imports u)) (List.getD
 (Module.imports u) k default) = 1) = true → (okN 8 (Module.imports u) && !inS (Module.imports u) (Module.name u)) = false ∧ W1c_iIsModuleLa u (lb false) = W1c_iIsModuleLa u (lb
 false)) ∧ (decide (memS (Module.name u :: List.take k (Module.imports u)) (List.getD (Module.imports u) k default) = 1) = false → false = false ∧ UpdF (MK.d kS) (mS (memS
 (Module.name u :: List.take k (Module.imports u)))) (mS (upd1 (memS (Module.name u :: List.take k (Module.imports u))) (List.getD (Module.imports u) k default) 1)) (Value.string
 (List.getD (Module.imports u) k default)) (some (cI 1)) ∧ rng IntKind.i64 ((↑k : Int) + 1) ∧ List.length (Module.imports u) - (k + 1) < List.length (Module.imports u) - k ∧
 Tc_iIsModuleLa u (li ((↑k : Int) + 1)) (Ob.map false kS (mS (upd1 (memS (Module.name u :: List.take k (Module.imports u))) (List.getD (Module.imports u) k default) 1))) =
 Lc_iIsModuleLa u (k + 1) ∧ Ic_iIsModuleLa u (List.length (Module.imports u) - (k + 1)) (Lc_iIsModuleLa u (k + 1))))) ∧ (decide ((↑k : Int) < (↑(List.length (List.map strC
 (Module.imports u))) : Int)) = false → (okN 8 (Module.imports u) = true ∧ inS (Module.imports u) (Module.name u) = false) ∧ W0c_iIsModuleLa u = W0c_iIsModuleLa u)) := by
 kernel_rfl
theorem Sc_iIsModuleLb (u : Module) (h : wM u ≤ 1048576)  : LoopSem Try.prog (loopAt Try.f36 1) (Ic_iIsModuleLb u) (Yc_iIsModuleLb u) := by
  refine LoopSem.ofHead wide fun k h => ⟨_, _, run_c_iIsModuleLb u k, ?_⟩
  have g1 := @okN_snoc 16 (u.exports.take k) (u.exports.getD k default)
  have g2 := @okN_take 16 u.exports (k + 1)
  have g3 := @isSym_le (u.exports.getD k default)
  with_reducible repeat' (first | apply And.intro | exact flatI | exact flatS | exact rowLens | (intro; skip) | apply obsN | apply obsC | apply obA | apply obM | apply obB | apply svA | apply tupA | apply lcA | apply lcS | apply svC | apply liC | apply lbC | apply lsC | apply vIc | apply vBc | apply vSc | apply vLc | apply mapC | apply mIc | apply mOc | apply mSc | apply mLc | apply Hc_iIsModuleLa | apply Ec_iIsModuleLa | apply Hc_iIsModuleLb | apply Ec_iIsModuleLb | apply EW1c_iIsModuleLb | apply EW1c_iIsModuleLa | apply c_iNam | apply c_iIsSymbol | apply c_iModD | apply c_iIsDatum)
  all_goals (try simp only [std] at *)
  all_goals (try (first | with_reducible apply c_iNam | with_reducible apply c_iIsSymbol | with_reducible apply c_iModD | with_reducible apply c_iIsDatum | (simp only [← List.map_append]; first | with_reducible apply c_iNam | with_reducible apply c_iIsSymbol | with_reducible apply c_iModD | with_reducible apply c_iIsDatum)))
  all_goals (try (first | with_reducible rfl | omega | assumption | (refine (decide_eq_true ?_).symm; assumption) | (refine (decide_eq_false ?_).symm; assumption) | (refine rowGet ?_; (first | omega | (simp only [std]; omega) | grind)) | (refine getC ?_ rfl; (first | omega | (simp only [std]; omega) | grind)) | exact look_mI | exact look_mO | exact look_mO1 | exact look_mS | exact look_mL | exact upd_mI | exact upd_mO | exact del_mO | exact upd_mS | exact take_mL | (refine upd_mL ?_; grind) | (refine fill_step ?_ ?_; (first | omega | (simp only [std]; omega) | grind); (first | rfl | exact (Row.eq _).trans rfl)) | (refine fill_init ?_; (first | rfl | exact (Row.eq _).trans rfl)) | (show (_ : St) = _; rfl) | grind [take_get, memS_one, memS_snoc, snocI, snocS, rowSnoc]))
theorem Sc_iIsModuleLa (u : Module) (h : wM u ≤ 1048576)  : LoopSem Try.prog (loopAt Try.f36 0) (Ic_iIsModuleLa u) (Yc_iIsModuleLa u) := by
  refine LoopSem.ofHead wide fun k h => ⟨_, _, run_c_iIsModuleLa u k, ?_⟩
  have g1 := @okN_snoc 8 (u.imports.take k) (u.imports.getD k default)
  have g2 := @okN_take 8 u.imports (k + 1)
  have g3 := @List.mem_of_mem_take _ (k + 1) u.name u.imports
  with_reducible repeat' (first | apply And.intro | exact flatI | exact flatS | exact rowLens | (intro; skip) | apply obsN | apply obsC | apply obA | apply obM | apply obB | apply svA | apply tupA | apply lcA | apply lcS | apply svC | apply liC | apply lbC | apply lsC | apply vIc | apply vBc | apply vSc | apply vLc | apply mapC | apply mIc | apply mOc | apply mSc | apply mLc | apply Hc_iIsModuleLa | apply Ec_iIsModuleLa | apply Hc_iIsModuleLb | apply Ec_iIsModuleLb | apply Sc_iIsModuleLb | apply EW1c_iIsModuleLb | apply EW1c_iIsModuleLa | apply c_iNam | apply c_iIsSymbol | apply c_iModD | apply c_iIsDatum)
  all_goals (try simp only [std] at *)
  all_goals (try (first | with_reducible apply c_iNam | with_reducible apply c_iIsSymbol | with_reducible apply c_iModD | with_reducible apply c_iIsDatum | (simp only [← List.map_append]; first | with_reducible apply c_iNam | with_reducible apply c_iIsSymbol | with_reducible apply c_iModD | with_reducible apply c_iIsDatum)))
  all_goals (try (first | with_reducible rfl | omega | assumption | (refine (decide_eq_true ?_).symm; assumption) | (refine (decide_eq_false ?_).symm; assumption) | (refine rowGet ?_; (first | omega | (simp only [std]; omega) | grind)) | (refine getC ?_ rfl; (first | omega | (simp only [std]; omega) | grind)) | exact look_mI | exact look_mO | exact look_mO1 | exact look_mS | exact look_mL | exact upd_mI | exact upd_mO | exact del_mO | exact upd_mS | exact take_mL | (refine upd_mL ?_; grind) | (refine fill_step ?_ ?_; (first | omega | (simp only [std]; omega) | grind); (first | rfl | exact (Row.eq _).trans rfl)) | (refine fill_init ?_; (first | rfl | exact (Row.eq _).trans rfl)) | (show (_ : St) = _; rfl) | grind [take_get, memS_one, memS_snoc, isNam, inS, snocI, snocS, rowSnoc]))
theorem run_c_iIsModule (u : Module) : aexec Try.prog (Option.getD (Func.body Try.f36) Code.skip) (entry [] [moduleA u] 70) [Orc.call [Mode.rd] [] (AV.sv (lb (isNam (Module.name
 u)))), Orc.br [Orc.bool true, Orc.bool true, Orc.fin []] [Orc.br [Orc.bool true, Orc.fin []] [Orc.br [Orc.fin []] [Orc.mkmap kS, Orc.upd (mS (upd1 zS (Module.name u) 1)),
 Orc.ghost (Ghost.sel [0, 1] [1, 3, 29, 30, 31]), Orc.loop (List.length (Module.imports u) - 0) (Lc_iIsModuleLa u 0) (Ic_iIsModuleLa u) [(okN 8 (Module.imports u) = true ∧ inS
 (Module.imports u) (Module.name u) = false, AEx.exit 0, W0c_iIsModuleLa u, [Orc.mkmap kS, Orc.ghost (Ghost.sel [0, 1] [1, 3, 49, 50, 51]), Orc.loop (List.length (Module.exports u)
 - 0) (Lc_iIsModuleLb u 0) (Ic_iIsModuleLb u) [(okN 16 (Module.exports u) = true, AEx.exit 2, W0c_iIsModuleLb u, [Orc.call [Mode.rd] [Ob.arr true 4 (List.map datumC (modD u))]
 (AV.sv (lstR 0)), Orc.call [Mode.rd] [] (AV.sv (lb (isDat (Datum.mk 0 0 (mkS []) (modD u))))), Orc.fin []]), (okN 16 (Module.exports u) = false, AEx.ret, W1c_iIsModuleLb u (lb
 false), [Orc.fin []])]]), ((okN 8 (Module.imports u) && !inS (Module.imports u) (Module.name u)) = false, AEx.ret, W1c_iIsModuleLa u (lb false), [Orc.fin []])]]]]] (finK Try.prog
 [ResultVar.tmp 2] [] (AV.sv (lb (modOK u)))) = (P_c_iNam (Module.name u) ∧ ((!isNam (Module.name u)) = true → true = true ∧ true = true ∧ ObsEq [] [] ∧ AV.sv (lb false) = AV.sv
 (lb (modOK u))) ∧ ((!isNam (Module.name u)) = false → List.length (List.map strC (Module.imports u)) ≤ 9223372036854775807 → (decide (12 < (↑(List.length (List.map strC
 (Module.imports u))) : Int)) = true → true = true ∧ ObsEq [] [] ∧ AV.sv (lb false) = AV.sv (lb (modOK u))) ∧ (decide (12 < (↑(List.length (List.map strC (Module.imports u))) :
 Int)) = false → List.length (List.map strC (Module.exports u)) ≤ 9223372036854775807 → (decide (60 < (↑(List.length (List.map strC (Module.exports u))) : Int)) = true → ObsEq []
 [] ∧ AV.sv (lb false) = AV.sv (lb (modOK u))) ∧ (decide (60 < (↑(List.length (List.map strC (Module.exports u))) : Int)) = false → false = false ∧ UpdF (MK.d kS) (mS zS) (mS (upd1
 zS (Module.name u) 1)) (Value.string (Module.name u)) (some (cI 1)) ∧ (List.length (List.map strC (Module.imports u)) ≤ 9223372036854775807 → Tc_iIsModuleLa u (li 0) (Ob.map false
 kS (mS (upd1 zS (Module.name u) 1))) = Lc_iIsModuleLa u 0 ∧ Ic_iIsModuleLa u (List.length (Module.imports u) - 0) (Lc_iIsModuleLa u 0) ∧ LoopSem Try.prog (loopAt Try.f36 0)
 (Ic_iIsModuleLa u) (Yc_iIsModuleLa u) ∧ (okN 8 (Module.imports u) = true ∧ inS (Module.imports u) (Module.name u) = false → List.length (List.map strC (Module.exports u)) ≤
 9223372036854775807 → Tc_iIsModuleLb u (li 0) (Ob.map false kS (mS zS)) = Lc_iIsModuleLb u 0 ∧ Ic_iIsModuleLb u (List.length (Module.exports u) - 0) (Lc_iIsModuleLb u 0) ∧ LoopSem
 Try.prog (loopAt Try.f36 1) (Ic_iIsModuleLb u) (Yc_iIsModuleLb u) ∧ (okN 16 (Module.exports u) = true → P_c_iModD u ∧ P_c_iIsDatum (Datum.mk 0 0 (mkS []) (modD u)) ∧ ObsEq [] [] ∧
 AV.sv (lb (isDat (Datum.mk 0 0 (mkS []) (modD u)))) = AV.sv (lb (modOK u))) ∧ (okN 16 (Module.exports u) = false → ObsEq [] [] ∧ AV.sv (lb false) = AV.sv (lb (modOK u))) ∧ True) ∧
 ((okN 8 (Module.imports u) && !inS (Module.imports u) (Module.name u)) = false → ObsEq [] [] ∧ AV.sv (lb false) = AV.sv (lb (modOK u))) ∧ True))))) := by kernel_rfl
theorem c_iIsModule (u : Module) (h : wM u ≤ 1048576)  : P_c_iIsModule u := by
  refine CallOK.ofRun wide (run_c_iIsModule u) Try.call36 Try.func36 rfl rfl rfl ?_
  have e : inS (u.imports.take 0) u.name = false := by simp [inS]
  with_reducible repeat' (first | apply And.intro | exact flatI | exact flatS | exact rowLens | (intro; skip) | apply obsN | apply obsC | apply obA | apply obM | apply obB | apply svA | apply tupA | apply lcA | apply lcS | apply svC | apply liC | apply lbC | apply lsC | apply vIc | apply vBc | apply vSc | apply vLc | apply mapC | apply mIc | apply mOc | apply mSc | apply mLc | apply Hc_iIsModuleLa | apply Ec_iIsModuleLa | apply Sc_iIsModuleLa | apply Hc_iIsModuleLb | apply Ec_iIsModuleLb | apply Sc_iIsModuleLb | apply EW1c_iIsModuleLb | apply EW1c_iIsModuleLa | apply c_iNam | apply c_iIsSymbol | apply c_iModD | apply c_iIsDatum)
  all_goals (try simp only [std] at *)
  all_goals (try (first | with_reducible apply c_iNam | with_reducible apply c_iIsSymbol | with_reducible apply c_iModD | with_reducible apply c_iIsDatum | (simp only [← List.map_append]; first | with_reducible apply c_iNam | with_reducible apply c_iIsSymbol | with_reducible apply c_iModD | with_reducible apply c_iIsDatum)))
  all_goals (try (first | with_reducible rfl | omega | assumption | (refine (decide_eq_true ?_).symm; assumption) | (refine (decide_eq_false ?_).symm; assumption) | (refine rowGet ?_; (first | omega | (simp only [std]; omega) | grind)) | (refine getC ?_ rfl; (first | omega | (simp only [std]; omega) | grind)) | exact look_mI | exact look_mO | exact look_mO1 | exact look_mS | exact look_mL | exact upd_mI | exact upd_mO | exact del_mO | exact upd_mS | exact take_mL | (refine upd_mL ?_; grind) | (refine fill_step ?_ ?_; (first | omega | (simp only [std]; omega) | grind); (first | rfl | exact (Row.eq _).trans rfl)) | (refine fill_init ?_; (first | rfl | exact (Row.eq _).trans rfl)) | (show (_ : St) = _; rfl) | grind [modOK, lstD, okN_nil, memS_nil, memS_snoc, snocI, snocS, rowSnoc]))
end Go.Proofs.Ytehpjofddjmbpaa
end
