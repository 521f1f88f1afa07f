/- Part 1 of the proof: The law FnExactRenumberCore holds: RenumberCore answers as the reference's does. No condition. -/
import Derived.Test.YtehpjofddjmbpaaQ4
section
namespace Go.Proofs.Ytehpjofddjmbpaa
open Go Go.Proofs.Ytehpjofddjmbpaa.Ab
set_option linter.unusedVariables false
set_option linter.unusedSimpArgs false
set_option maxHeartbeats 4000000
theorem all_stop {L : List UInt8} {p : UInt8 → Bool} {k : Nat} (h : k < L.length) (hp : p (L.getD k 0) = false) : L.all p = false := by
  rw [List.all_eq_false]
  have e : L.getD k 0 = L[k] := by simp [h]
  exact ⟨L[k], List.getElem_mem h, by rw [← e, hp]; decide⟩
theorem all_go {L : List UInt8} {p : UInt8 → Bool} {k : Nat} (h : k < L.length) (hp : p (L.getD k 0) = true) (ht : (L.take k).all p = true) : (L.take (k + 1)).all p = true := by
  rw [take0 h, List.all_append, ht, List.all_cons, hp]; rfl
theorem all_all {L : List UInt8} {p : UInt8 → Bool} {k : Nat} (h : L.length ≤ k) (ht : (L.take k).all p = true) : L.all p = true := by
  rwa [List.take_of_length_le h] at ht
def lu (n : Int) : SV := .one (.val (.lit (.int .u8 n)))
def isDig (n : Int) : Bool := decide (48 ≤ n ∧ n ≤ 57)
def markI : List Int := [33, 63, 42, 60, 62, 61, 47, 43, 45, 46, 95]
def isMk (n : Int) : Bool := decide (97 ≤ n ∧ n ≤ 122) || isDig n || decide (n ∈ markI)
theorem mark_at {k : Nat} (h : k < 11) : ((([33, 63, 42, 60, 62, 61, 47, 43, 45, 46, 95] : List UInt8).getD k 0).toNat : Int) = markI.getD k default := by
  have : ∀ k, k < 11 → ((([33, 63, 42, 60, 62, 61, 47, 43, 45, 46, 95] : List UInt8).getD k 0).toNat : Int) = markI.getD k default := by decide
  exact this k h
def isStB (n : Int) : Bool := decide (32 ≤ n ∧ n ≤ 126 ∧ n ≠ 34)
def isSym (s : ByteArray) : Bool := decide (1 ≤ (s.size : Int) ∧ (s.size : Int) ≤ 16) && !isDig (s.data.toList.getD 0 0).toNat && !(decide (((s.data.toList.getD 0 0).toNat : Int) = 45) && decide (1 < (s.size : Int)) && isDig (s.data.toList.getD 1 0).toNat) && s.data.toList.all fun b => isMk b.toNat
def isStr (s : ByteArray) : Bool := decide ((s.size : Int) ≤ 20) && s.data.toList.all fun b => isStB b.toNat
abbrev P_c_sDigit (n : Int) : Prop := CallOK Try.prog 269 [] [lu n] [] (.sv (lb (isDig n)))
theorem run_c_sDigit (n : Int) : aexec Try.prog (Option.getD (Func.body Try.f269) Code.skip) (entry [] [lu n] 9) [Orc.br [Orc.fin []] [Orc.fin []]] (finK Try.prog [ResultVar.tmp 2]
 [] (AV.sv (lb (isDig n)))) = ((decide (48 ≤ n) = true → ObsEq [] [] ∧ AV.sv (lb (decide (n ≤ 57))) = AV.sv (lb (isDig n))) ∧ (decide (48 ≤ n) = false → ObsEq [] [] ∧ AV.sv (lb
 false) = AV.sv (lb (isDig n)))) := by kernel_rfl
theorem c_sDigit (n : Int)  : P_c_sDigit n := by
  refine CallOK.ofRun wide (run_c_sDigit n) Try.call269 Try.func269 rfl rfl rfl ?_
  with_reducible repeat' (first | apply And.intro | exact flatI | exact flatS | exact rowLens | (intro; skip) | apply obsN | apply obsC | apply obA | apply obM | apply obB | apply svA | apply tupA | apply lcA | apply lcS | apply svC | apply liC | apply lbC | apply lsC | apply vIc | apply vBc | apply vSc | apply vLc | apply mapC)
  all_goals (try simp only [std] at *)
  all_goals (try (first | with_reducible rfl | omega | assumption | (refine (decide_eq_true ?_).symm; assumption) | (refine (decide_eq_false ?_).symm; assumption) | (refine rowGet ?_; (first | omega | (simp only [std]; omega) | grind)) | (refine getC ?_ rfl; (first | omega | (simp only [std]; omega) | grind)) | (refine fill_step ?_ ?_; (first | omega | (simp only [std]; omega) | grind); (first | rfl | exact (Row.eq _).trans rfl)) | (refine fill_init ?_; (first | rfl | exact (Row.eq _).trans rfl)) | (show (_ : St) = _; rfl) | grind [isDig, snocI, snocS, rowSnoc]))
abbrev P_c_iDigit (n : Int) : Prop := CallOK Try.prog 222 [] [lu n] [] (.sv (lb (isDig n)))
theorem run_c_iDigit (n : Int) : aexec Try.prog (Option.getD (Func.body Try.f222) Code.skip) (entry [] [lu n] 9) [Orc.br [Orc.fin []] [Orc.fin []]] (finK Try.prog [ResultVar.tmp 2]
 [] (AV.sv (lb (isDig n)))) = ((decide (48 ≤ n) = true → ObsEq [] [] ∧ AV.sv (lb (decide (n ≤ 57))) = AV.sv (lb (isDig n))) ∧ (decide (48 ≤ n) = false → ObsEq [] [] ∧ AV.sv (lb
 false) = AV.sv (lb (isDig n)))) := by kernel_rfl
theorem c_iDigit (n : Int)  : P_c_iDigit n := by
  refine CallOK.ofRun wide (run_c_iDigit n) Try.call222 Try.func222 rfl rfl rfl ?_
  with_reducible repeat' (first | apply And.intro | exact flatI | exact flatS | exact rowLens | (intro; skip) | apply obsN | apply obsC | apply obA | apply obM | apply obB | apply svA | apply tupA | apply lcA | apply lcS | apply svC | apply liC | apply lbC | apply lsC | apply vIc | apply vBc | apply vSc | apply vLc | apply mapC)
  all_goals (try simp only [std] at *)
  all_goals (try (first | with_reducible rfl | omega | assumption | (refine (decide_eq_true ?_).symm; assumption) | (refine (decide_eq_false ?_).symm; assumption) | (refine rowGet ?_; (first | omega | (simp only [std]; omega) | grind)) | (refine getC ?_ rfl; (first | omega | (simp only [std]; omega) | grind)) | (refine fill_step ?_ ?_; (first | omega | (simp only [std]; omega) | grind); (first | rfl | exact (Row.eq _).trans rfl)) | (refine fill_init ?_; (first | rfl | exact (Row.eq _).trans rfl)) | (show (_ : St) = _; rfl) | grind [isDig, snocI, snocS, rowSnoc]))
abbrev P_c_sMark (n : Int) : Prop := CallOK Try.prog 270 [] [lu n] [] (.sv (lb (isMk n)))
def Tc_sMarkLa (n : Int) (x0 : SV) : St := St.mk (regsOf 26 [(0, AV.sv (SV.one (AC.val (Cell.lit (Value.int IntKind.u8 n))))), (3, AV.sv (ls (ByteArray.mk #[(33 : UInt8), (63 :
 UInt8), (42 : UInt8), (60 : UInt8), (62 : UInt8), (61 : UInt8), (47 : UInt8), (43 : UInt8), (45 : UInt8), (46 : UInt8), (95 : UInt8)]))), (4, AV.sv x0)]) [] 0 
def Lc_sMarkLa (n : Int) (k : Nat) : St := Tc_sMarkLa n (li (↑k : Int)) 
def Ic_sMarkLa (n : Int) : Nat → St → Prop := Head (Lc_sMarkLa n) (fun k => k ≤ 11 ∧ ¬n ∈ List.take k markI) fun k => 11 - k 
def W0c_sMarkLa (n : Int) : St := St.mk (regsOf 26 []) [] 0 
def W1c_sMarkLa (n : Int) (x0 : SV) : St := St.mk (regsOf 26 [(2, AV.sv x0)]) [] 0 
def Yc_sMarkLa (n : Int) : List (Prop × AEx × St) := [(decide (n ∈ markI) = false, AEx.exit 0, W0c_sMarkLa n), (decide (n ∈ markI) = true, AEx.ret, W1c_sMarkLa n (lb true))]
theorem Hc_sMarkLa {n : Int} {k : Nat} {m : Nat} (h : (fun k => k ≤ 11 ∧ ¬n ∈ List.take k markI) k) (hm : (fun k => 11 - k) k = m) : Ic_sMarkLa n m (Lc_sMarkLa n k) := hm ▸ Head.mk
 h
theorem Ec_sMarkLa {n : Int} {k : Nat} {x0 : SV} (h0 : x0 = (li (↑k : Int))) : Tc_sMarkLa n x0 = Lc_sMarkLa n k := by
  rw [h0]
  rfl
theorem EW1c_sMarkLa {n : Int} {x0 y0 : SV} (h0 : x0 = y0) : W1c_sMarkLa n x0 = W1c_sMarkLa n y0 := by rw [h0]
theorem run_c_sMarkLa (n : Int) (k : Nat) : aexec Try.prog (loopAt Try.f270 0) (Lc_sMarkLa n k) [Orc.br [Orc.br [Orc.ghost (Ghost.sel [] [2]), Orc.out 1] [Orc.ghost (Ghost.sel []
 [0, 3, 4]), Orc.goto (11 - (k + 1)) (Lc_sMarkLa n (k + 1))]] [Orc.ghost (Ghost.sel [] []), Orc.out 0]] (loopK (Ic_sMarkLa n) (Yc_sMarkLa n) (11 - k)) = (11 ≤ 9223372036854775807 →
 (decide ((↑k : Int) < 11) = true → (0 ≤ (↑k : Int) ∧ Int.toNat (↑k : Int) < 11) ∧ (decide ((↑(UInt8.toNat (List.getD [(33 : UInt8), (63 : UInt8), (42 : UInt8), (60 : UInt8), (62 :
 UInt8), (61 : UInt8), (47 : UInt8), (43 : UInt8), (45 : UInt8), (46 : UInt8), (95 : UInt8)] (Int.toNat (↑k : Int)) (0 : UInt8))) : Int) = n) = true → decide (n ∈ markI) = true ∧
 W1c_sMarkLa n (lb true) = W1c_sMarkLa n (lb true)) ∧ (decide ((↑(UInt8.toNat (List.getD [(33 : UInt8), (63 : UInt8), (42 : UInt8), (60 : UInt8), (62 : UInt8), (61 : UInt8), (47 :
 UInt8), (43 : UInt8), (45 : UInt8), (46 : UInt8), (95 : UInt8)] (Int.toNat (↑k : Int)) (0 : UInt8))) : Int) = n) = false → rng IntKind.i64 ((↑k : Int) + 1) ∧ 11 - (k + 1) < 11 - k
 ∧ Tc_sMarkLa n (li ((↑k : Int) + 1)) = Lc_sMarkLa n (k + 1) ∧ Ic_sMarkLa n (11 - (k + 1)) (Lc_sMarkLa n (k + 1)))) ∧ (decide ((↑k : Int) < 11) = false → decide (n ∈ markI) = false
 ∧ W0c_sMarkLa n = W0c_sMarkLa n)) := by kernel_rfl
theorem Sc_sMarkLa (n : Int)  : LoopSem Try.prog (loopAt Try.f270 0) (Ic_sMarkLa n) (Yc_sMarkLa n) := by
  refine LoopSem.ofHead wide fun k h => ⟨_, _, run_c_sMarkLa n k, ?_⟩
  have g := @mark_at k
  have e : markI.length = 11 := rfl
  have e2 : markI.take 11 = markI := rfl
  with_reducible repeat' (first | apply And.intro | exact flatI | exact flatS | exact rowLens | (intro; skip) | apply obsN | apply obsC | apply obA | apply obM | apply obB | apply svA | apply tupA | apply lcA | apply lcS | apply svC | apply liC | apply lbC | apply lsC | apply vIc | apply vBc | apply vSc | apply vLc | apply mapC | apply Hc_sMarkLa | apply Ec_sMarkLa | apply EW1c_sMarkLa | apply c_sDigit)
  all_goals (try simp only [std] at *)
  all_goals (try (first | with_reducible apply c_sDigit | (simp only [← List.map_append]; first | with_reducible apply c_sDigit)))
  all_goals (try (first | with_reducible rfl | omega | assumption | (refine (decide_eq_true ?_).symm; assumption) | (refine (decide_eq_false ?_).symm; assumption) | (refine rowGet ?_; (first | omega | (simp only [std]; omega) | grind)) | (refine getC ?_ rfl; (first | omega | (simp only [std]; omega) | grind)) | (refine fill_step ?_ ?_; (first | omega | (simp only [std]; omega) | grind); (first | rfl | exact (Row.eq _).trans rfl)) | (refine fill_init ?_; (first | rfl | exact (Row.eq _).trans rfl)) | (show (_ : St) = _; rfl) | grind [take_get, getD_mem', snocI, snocS, rowSnoc]))
theorem run_c_sMark (n : Int) : aexec Try.prog (Option.getD (Func.body Try.f270) Code.skip) (entry [] [lu n] 26) [Orc.br [Orc.br [Orc.bool true, Orc.fin []] [Orc.call [Mode.rd] []
 (AV.sv (lb (isDig n))), Orc.br [Orc.fin []] [Orc.ghost (Ghost.sel [] [0, 3, 4]), Orc.loop 11 (Lc_sMarkLa n 0) (Ic_sMarkLa n) [(decide (n ∈ markI) = false, AEx.exit 0, W0c_sMarkLa
 n, [Orc.fin []]), (decide (n ∈ markI) = true, AEx.ret, W1c_sMarkLa n (lb true), [Orc.fin []])]]]] [Orc.bool false, Orc.call [Mode.rd] [] (AV.sv (lb (isDig n))), Orc.br [Orc.fin
 []] [Orc.ghost (Ghost.sel [] [0, 3, 4]), Orc.loop 11 (Lc_sMarkLa n 0) (Ic_sMarkLa n) [(decide (n ∈ markI) = false, AEx.exit 0, W0c_sMarkLa n, [Orc.fin []]), (decide (n ∈ markI) =
 true, AEx.ret, W1c_sMarkLa n (lb true), [Orc.fin []])]]]] (finK Try.prog [ResultVar.tmp 2] [] (AV.sv (lb (isMk n)))) = ((decide (97 ≤ n) = true → (decide (n ≤ 122) = true → true =
 true ∧ ObsEq [] [] ∧ AV.sv (lb true) = AV.sv (lb (isMk n))) ∧ (decide (n ≤ 122) = false → P_c_sDigit n ∧ (isDig n = true → ObsEq [] [] ∧ AV.sv (lb true) = AV.sv (lb (isMk n))) ∧
 (isDig n = false → Tc_sMarkLa n (li 0) = Lc_sMarkLa n 0 ∧ Ic_sMarkLa n 11 (Lc_sMarkLa n 0) ∧ LoopSem Try.prog (loopAt Try.f270 0) (Ic_sMarkLa n) (Yc_sMarkLa n) ∧ (decide (n ∈
 markI) = false → ObsEq [] [] ∧ AV.sv (lb false) = AV.sv (lb (isMk n))) ∧ (decide (n ∈ markI) = true → ObsEq [] [] ∧ AV.sv (lb true) = AV.sv (lb (isMk n))) ∧ True))) ∧ (decide (97
 ≤ n) = false → false = false ∧ P_c_sDigit n ∧ (isDig n = true → ObsEq [] [] ∧ AV.sv (lb true) = AV.sv (lb (isMk n))) ∧ (isDig n = false → Tc_sMarkLa n (li 0) = Lc_sMarkLa n 0 ∧
 Ic_sMarkLa n 11 (Lc_sMarkLa n 0) ∧ LoopSem Try.prog (loopAt Try.f270 0) (Ic_sMarkLa n) (Yc_sMarkLa n) ∧ (decide (n ∈ markI) = false → ObsEq [] [] ∧ AV.sv (lb false) = AV.sv (lb
 (isMk n))) ∧ (decide (n ∈ markI) = true → ObsEq [] [] ∧ AV.sv (lb true) = AV.sv (lb (isMk n))) ∧ True))) := by kernel_rfl
theorem c_sMark (n : Int)  : P_c_sMark n := by
  refine CallOK.ofRun wide (run_c_sMark n) Try.call270 Try.func270 rfl rfl rfl ?_
  with_reducible repeat' (first | apply And.intro | exact flatI | exact flatS | exact rowLens | (intro; skip) | apply obsN | apply obsC | apply obA | apply obM | apply obB | apply svA | apply tupA | apply lcA | apply lcS | apply svC | apply liC | apply lbC | apply lsC | apply vIc | apply vBc | apply vSc | apply vLc | apply mapC | apply Hc_sMarkLa | apply Ec_sMarkLa | apply Sc_sMarkLa | apply EW1c_sMarkLa | apply c_sDigit)
  all_goals (try simp only [std] at *)
  all_goals (try (first | with_reducible apply c_sDigit | (simp only [← List.map_append]; first | with_reducible apply c_sDigit)))
  all_goals (try (first | with_reducible rfl | omega | assumption | (refine (decide_eq_true ?_).symm; assumption) | (refine (decide_eq_false ?_).symm; assumption) | (refine rowGet ?_; (first | omega | (simp only [std]; omega) | grind)) | (refine getC ?_ rfl; (first | omega | (simp only [std]; omega) | grind)) | (refine fill_step ?_ ?_; (first | omega | (simp only [std]; omega) | grind); (first | rfl | exact (Row.eq _).trans rfl)) | (refine fill_init ?_; (first | rfl | exact (Row.eq _).trans rfl)) | (show (_ : St) = _; rfl) | grind [isMk, snocI, snocS, rowSnoc]))
abbrev P_c_iMark (n : Int) : Prop := CallOK Try.prog 223 [] [lu n] [] (.sv (lb (isMk n)))
abbrev a1_c_iMark (n : Int) := (decide (n = 33) = false → (decide (n = 63) = true → true = true ∧ ObsEq [] [] ∧ AV.sv (lb true) = AV.sv (lb (isMk n))) ∧ (decide (n = 63) = false →
 (decide (n = 42) = true → true = true ∧ ObsEq [] [] ∧ AV.sv (lb true) = AV.sv (lb (isMk n))) ∧ (decide (n = 42) = false → (decide (n = 60) = true → true = true ∧ ObsEq [] [] ∧
 AV.sv (lb true) = AV.sv (lb (isMk n))) ∧ (decide (n = 60) = false → (decide (n = 62) = true → true = true ∧ ObsEq [] [] ∧ AV.sv (lb true) = AV.sv (lb (isMk n))) ∧ (decide (n = 62)
 = false → (decide (n = 61) = true → true = true ∧ ObsEq [] [] ∧ AV.sv (lb true) = AV.sv (lb (isMk n))) ∧ (decide (n = 61) = false → (decide (n = 47) = true → true = true ∧ ObsEq
 [] [] ∧ AV.sv (lb true) = AV.sv (lb (isMk n))) ∧ (decide (n = 47) = false → (decide (n = 43) = true → true = true ∧ ObsEq [] [] ∧ AV.sv (lb true) = AV.sv (lb (isMk n))) ∧ (decide
 (n = 43) = false → (decide (n = 45) = true → true = true ∧ ObsEq [] [] ∧ AV.sv (lb true) = AV.sv (lb (isMk n))) ∧ (decide (n = 45) = false → (decide (n = 46) = true → true = true
 ∧ ObsEq [] [] ∧ AV.sv (lb true) = AV.sv (lb (isMk n))) ∧ (decide (n = 46) = false → (decide (n = 95) = true → ObsEq [] [] ∧ AV.sv (lb true) = AV.sv (lb (isMk n))) ∧ (decide (n =
 95) = false → ObsEq [] [] ∧ AV.sv (lb false) = AV.sv (lb (isMk n)))))))))))))
abbrev a2_c_iMark  := [Orc.br [Orc.bool true, Orc.fin []] [Orc.br [Orc.bool true, Orc.fin []] [Orc.br [Orc.bool true, Orc.fin []] [Orc.br [Orc.bool true, Orc.fin []] [Orc.br
 [Orc.bool true, Orc.fin []] [Orc.br [Orc.bool true, Orc.fin []] [Orc.br [Orc.bool true, Orc.fin []] [Orc.br [Orc.bool true, Orc.fin []] [Orc.br [Orc.bool true, Orc.fin []] [Orc.br
 [Orc.fin []] [Orc.fin []]]]]]]]]]]]
abbrev a3_c_iMark (n : Int) := (decide (48 ≤ n) = true → (decide (n ≤ 57) = true → ObsEq [] [] ∧ AV.sv (lb true) = AV.sv (lb (isMk n))) ∧ (decide (n ≤ 57) = false → (decide (n =
 33) = true → true = true ∧ ObsEq [] [] ∧ AV.sv (lb true) = AV.sv (lb (isMk n))) ∧ (a1_c_iMark n)))
theorem run_c_iMark (n : Int) : aexec Try.prog (Option.getD (Func.body Try.f223) Code.skip) (entry [] [lu n] 30) [Orc.br [Orc.br [Orc.bool true, Orc.fin []] [Orc.br [Orc.br
 [Orc.fin []] [Orc.br [Orc.bool true, Orc.fin []] a2_c_iMark]] [Orc.bool false, Orc.br [Orc.bool true, Orc.fin []] a2_c_iMark]]] [Orc.bool false, Orc.br [Orc.br [Orc.fin []]
 [Orc.br [Orc.bool true, Orc.fin []] a2_c_iMark]] [Orc.bool false, Orc.br [Orc.bool true, Orc.fin []] a2_c_iMark]]] (finK Try.prog [ResultVar.tmp 2] [] (AV.sv (lb (isMk n)))) =
 ((decide (97 ≤ n) = true → (decide (n ≤ 122) = true → true = true ∧ ObsEq [] [] ∧ AV.sv (lb true) = AV.sv (lb (isMk n))) ∧ (decide (n ≤ 122) = false → (a3_c_iMark n) ∧ (decide (48
 ≤ n) = false → false = false ∧ (decide (n = 33) = true → true = true ∧ ObsEq [] [] ∧ AV.sv (lb true) = AV.sv (lb (isMk n))) ∧ (a1_c_iMark n)))) ∧ (decide (97 ≤ n) = false → false
 = false ∧ (a3_c_iMark n) ∧ (decide (48 ≤ n) = false → false = false ∧ (decide (n = 33) = true → true = true ∧ ObsEq [] [] ∧ AV.sv (lb true) = AV.sv (lb (isMk n))) ∧ (a1_c_iMark
 n)))) := by kernel_rfl
theorem c_iMark (n : Int)  : P_c_iMark n := by
  refine CallOK.ofRun wide (run_c_iMark n) Try.call223 Try.func223 rfl rfl rfl ?_
  try delta a1_c_iMark a2_c_iMark a3_c_iMark
  with_reducible repeat' (first | apply And.intro | exact flatI | exact flatS | exact rowLens | (intro; skip) | apply obsN | apply obsC | apply obA | apply obM | apply obB | apply svA | apply tupA | apply lcA | apply lcS | apply svC | apply liC | apply lbC | apply lsC | apply vIc | apply vBc | apply vSc | apply vLc | apply mapC)
  all_goals (try simp only [std] at *)
  all_goals (try (first | with_reducible rfl | omega | assumption | (refine (decide_eq_true ?_).symm; assumption) | (refine (decide_eq_false ?_).symm; assumption) | (refine rowGet ?_; (first | omega | (simp only [std]; omega) | grind)) | (refine getC ?_ rfl; (first | omega | (simp only [std]; omega) | grind)) | (refine fill_step ?_ ?_; (first | omega | (simp only [std]; omega) | grind); (first | rfl | exact (Row.eq _).trans rfl)) | (refine fill_init ?_; (first | rfl | exact (Row.eq _).trans rfl)) | (show (_ : St) = _; rfl) | grind [snocI, snocS, rowSnoc]))
  all_goals (symm; simp only [isMk, isDig, markI, List.mem_cons, List.not_mem_nil, Bool.or_eq_true, Bool.or_eq_false_iff, decide_eq_true_eq, decide_eq_false_iff_not, or_false]; omega)
abbrev P_c_l1In (x : Int) (a : Int) (b : Int) : Prop := CallOK Try.prog 195 [] [li x, li a, li b] [] (.sv (lb (decide (a ≤ x ∧ x ≤ b))))
theorem run_c_l1In (x : Int) (a : Int) (b : Int) : aexec Try.prog (Option.getD (Func.body Try.f195) Code.skip) (entry [] [li x, li a, li b] 15) [Orc.br [Orc.fin []] [Orc.fin []]]
 (finK Try.prog [ResultVar.tmp 6] [] (AV.sv (lb (decide (a ≤ x ∧ x ≤ b))))) = ((decide (a ≤ x) = true → ObsEq [] [] ∧ AV.sv (lb (decide (x ≤ b))) = AV.sv (lb (decide (a ≤ x ∧ x ≤
 b)))) ∧ (decide (a ≤ x) = false → ObsEq [] [] ∧ AV.sv (lb false) = AV.sv (lb (decide (a ≤ x ∧ x ≤ b))))) := by kernel_rfl
theorem c_l1In (x a b : Int)  : P_c_l1In x a b := by
  refine CallOK.ofRun wide (run_c_l1In x a b) Try.call195 Try.func195 rfl rfl rfl ?_
  with_reducible repeat' (first | apply And.intro | exact flatI | exact flatS | exact rowLens | (intro; skip) | apply obsN | apply obsC | apply obA | apply obM | apply obB | apply svA | apply tupA | apply lcA | apply lcS | apply svC | apply liC | apply lbC | apply lsC | apply vIc | apply vBc | apply vSc | apply vLc | apply mapC)
  all_goals (try simp only [std] at *)
  all_goals (try (first | with_reducible rfl | omega | assumption | (refine (decide_eq_true ?_).symm; assumption) | (refine (decide_eq_false ?_).symm; assumption) | (refine rowGet ?_; (first | omega | (simp only [std]; omega) | grind)) | (refine getC ?_ rfl; (first | omega | (simp only [std]; omega) | grind)) | (refine fill_step ?_ ?_; (first | omega | (simp only [std]; omega) | grind); (first | rfl | exact (Row.eq _).trans rfl)) | (refine fill_init ?_; (first | rfl | exact (Row.eq _).trans rfl)) | (show (_ : St) = _; rfl) | grind [snocI, snocS, rowSnoc]))
abbrev P_c_sIsSymbol (s : ByteArray) : Prop := CallOK Try.prog 216 [] [ls s] [] (.sv (lb (isSym s)))
def Tc_sIsSymbolLa (s : ByteArray) (x0 : SV) : St := St.mk (regsOf 39 [(0, AV.sv (ls s)), (3, AV.sv x0)]) [] 0 
def Lc_sIsSymbolLa (s : ByteArray) (k : Nat) : St := Tc_sIsSymbolLa s (li (↑k : Int)) 
def Ic_sIsSymbolLa (s : ByteArray) : Nat → St → Prop := Head (Lc_sIsSymbolLa s) (fun k => k ≤ ByteArray.size s ∧ ByteArray.size s ≤ 16 ∧ (List.all (List.take k (Array.toList
 (ByteArray.data s))) fun b => isMk (↑(UInt8.toNat b) : Int)) = true) fun k => ByteArray.size s - k 
def W0c_sIsSymbolLa (s : ByteArray) : St := St.mk (regsOf 39 []) [] 0 
def W1c_sIsSymbolLa (s : ByteArray) (x0 : SV) : St := St.mk (regsOf 39 [(2, AV.sv x0)]) [] 0 
def Yc_sIsSymbolLa (s : ByteArray) : List (Prop × AEx × St) := [((List.all (Array.toList (ByteArray.data s)) fun b => isMk (↑(UInt8.toNat b) : Int)) = true, AEx.exit 0,
 W0c_sIsSymbolLa s), ((List.all (Array.toList (ByteArray.data s)) fun b => isMk (↑(UInt8.toNat b) : Int)) = false, AEx.ret, W1c_sIsSymbolLa s (lb false))]
theorem Hc_sIsSymbolLa {s : ByteArray} {k : Nat} {m : Nat} (h : (fun k => k ≤ ByteArray.size s ∧ ByteArray.size s ≤ 16 ∧ (List.all (List.take k (Array.toList (ByteArray.data s)))
 fun b => isMk (↑(UInt8.toNat b) : Int)) = true) k) (hm : (fun k => ByteArray.size s - k) k = m) : Ic_sIsSymbolLa s m (Lc_sIsSymbolLa s k) := hm ▸ Head.mk h
theorem Ec_sIsSymbolLa {s : ByteArray} {k : Nat} {x0 : SV} (h0 : x0 = (li (↑k : Int))) : Tc_sIsSymbolLa s x0 = Lc_sIsSymbolLa s k := by
  rw [h0]
  rfl
theorem EW1c_sIsSymbolLa {s : ByteArray} {x0 y0 : SV} (h0 : x0 = y0) : W1c_sIsSymbolLa s x0 = W1c_sIsSymbolLa s y0 := by rw [h0]
theorem run_c_sIsSymbolLa (s : ByteArray) (k : Nat) : aexec Try.prog (loopAt Try.f216 0) (Lc_sIsSymbolLa s k) [Orc.br [Orc.call [Mode.rd] [] (AV.sv (lb (isMk (↑(UInt8.toNat
 (List.getD (Array.toList (ByteArray.data s)) (Int.toNat (↑k : Int)) (0 : UInt8))) : Int)))), Orc.br [Orc.ghost (Ghost.sel [] [2]), Orc.out 1] [Orc.ghost (Ghost.sel [] [0, 3]),
 Orc.goto (ByteArray.size s - (k + 1)) (Lc_sIsSymbolLa s (k + 1))]] [Orc.ghost (Ghost.sel [] []), Orc.out 0]] (loopK (Ic_sIsSymbolLa s) (Yc_sIsSymbolLa s) (ByteArray.size s - k)) =
 (List.length (Array.toList (ByteArray.data s)) ≤ 9223372036854775807 → (decide ((↑k : Int) < (↑(List.length (Array.toList (ByteArray.data s))) : Int)) = true → (0 ≤ (↑k : Int) ∧
 Int.toNat (↑k : Int) < List.length (Array.toList (ByteArray.data s))) ∧ P_c_sMark (↑(UInt8.toNat (List.getD (Array.toList (ByteArray.data s)) (Int.toNat (↑k : Int)) (0 : UInt8)))
 : Int) ∧ ((!isMk (↑(UInt8.toNat (List.getD (Array.toList (ByteArray.data s)) (Int.toNat (↑k : Int)) (0 : UInt8))) : Int)) = true → (List.all (Array.toList (ByteArray.data s)) fun
 b => isMk (↑(UInt8.toNat b) : Int)) = false ∧ W1c_sIsSymbolLa s (lb false) = W1c_sIsSymbolLa s (lb false)) ∧ ((!isMk (↑(UInt8.toNat (List.getD (Array.toList (ByteArray.data s))
 (Int.toNat (↑k : Int)) (0 : UInt8))) : Int)) = false → rng IntKind.i64 ((↑k : Int) + 1) ∧ ByteArray.size s - (k + 1) < ByteArray.size s - k ∧ Tc_sIsSymbolLa s (li ((↑k : Int) +
 1)) = Lc_sIsSymbolLa s (k + 1) ∧ Ic_sIsSymbolLa s (ByteArray.size s - (k + 1)) (Lc_sIsSymbolLa s (k + 1)))) ∧ (decide ((↑k : Int) < (↑(List.length (Array.toList (ByteArray.data
 s))) : Int)) = false → (List.all (Array.toList (ByteArray.data s)) fun b => isMk (↑(UInt8.toNat b) : Int)) = true ∧ W0c_sIsSymbolLa s = W0c_sIsSymbolLa s)) := by kernel_rfl
theorem Sc_sIsSymbolLa (s : ByteArray)  : LoopSem Try.prog (loopAt Try.f216 0) (Ic_sIsSymbolLa s) (Yc_sIsSymbolLa s) := by
  refine LoopSem.ofHead wide fun k h => ⟨_, _, run_c_sIsSymbolLa s k, ?_⟩
  have g1 := @all_stop s.data.toList (fun b => isMk b.toNat) k
  have g2 := @all_go s.data.toList (fun b => isMk b.toNat) k
  have g3 := @all_all s.data.toList (fun b => isMk b.toNat) k
  with_reducible repeat' (first | apply And.intro | exact flatI | exact flatS | exact rowLens | (intro; skip) | apply obsN | apply obsC | apply obA | apply obM | apply obB | apply svA | apply tupA | apply lcA | apply lcS | apply svC | apply liC | apply lbC | apply lsC | apply vIc | apply vBc | apply vSc | apply vLc | apply mapC | apply Hc_sIsSymbolLa | apply Ec_sIsSymbolLa | apply EW1c_sIsSymbolLa | apply c_l1In | apply c_sDigit | apply c_sMark)
  all_goals (try simp only [std] at *)
  all_goals (try (first | with_reducible apply c_l1In | with_reducible apply c_sDigit | with_reducible apply c_sMark | (simp only [← List.map_append]; first | with_reducible apply c_l1In | with_reducible apply c_sDigit | with_reducible apply c_sMark)))
  all_goals (try (first | with_reducible rfl | omega | assumption | (refine (decide_eq_true ?_).symm; assumption) | (refine (decide_eq_false ?_).symm; assumption) | (refine rowGet ?_; (first | omega | (simp only [std]; omega) | grind)) | (refine getC ?_ rfl; (first | omega | (simp only [std]; omega) | grind)) | (refine fill_step ?_ ?_; (first | omega | (simp only [std]; omega) | grind); (first | rfl | exact (Row.eq _).trans rfl)) | (refine fill_init ?_; (first | rfl | exact (Row.eq _).trans rfl)) | (show (_ : St) = _; rfl) | grind [snocI, snocS, rowSnoc]))
abbrev a1_c_sIsSymbol (s : ByteArray) := (↑(UInt8.toNat (List.getD (Array.toList (ByteArray.data s)) 0 (0 : UInt8))) : Int)
abbrev a2_c_sIsSymbol (s : ByteArray) := (↑(List.length (Array.toList (ByteArray.data s))) : Int)
abbrev a3_c_sIsSymbol (s : ByteArray) := (↑(UInt8.toNat (List.getD (Array.toList (ByteArray.data s)) 1 (0 : UInt8))) : Int)
theorem run_c_sIsSymbol (s : ByteArray) : aexec Try.prog (Option.getD (Func.body Try.f216) Code.skip) (entry [] [ls s] 39) [Orc.call [Mode.rd, Mode.rd, Mode.rd] [] (AV.sv (lb
 (decide (1 ≤ (a2_c_sIsSymbol s) ∧ (a2_c_sIsSymbol s) ≤ 16)))), Orc.br [Orc.bool true, Orc.bool true, Orc.fin []] [Orc.call [Mode.rd] [] (AV.sv (lb (isDig (a1_c_sIsSymbol s)))),
 Orc.br [Orc.bool true, Orc.fin []] [Orc.br [Orc.br [Orc.call [Mode.rd] [] (AV.sv (lb (isDig (a3_c_sIsSymbol s)))), Orc.br [Orc.fin []] [Orc.ghost (Ghost.sel [] [0, 3]), Orc.loop
 (ByteArray.size s - 0) (Lc_sIsSymbolLa s 0) (Ic_sIsSymbolLa s) [((List.all (Array.toList (ByteArray.data s)) fun b => isMk (↑(UInt8.toNat b) : Int)) = true, AEx.exit 0,
 W0c_sIsSymbolLa s, [Orc.fin []]), ((List.all (Array.toList (ByteArray.data s)) fun b => isMk (↑(UInt8.toNat b) : Int)) = false, AEx.ret, W1c_sIsSymbolLa s (lb false), [Orc.fin
 []])]]] [Orc.bool false, Orc.ghost (Ghost.sel [] [0, 3]), Orc.loop (ByteArray.size s - 0) (Lc_sIsSymbolLa s 0) (Ic_sIsSymbolLa s) [((List.all (Array.toList (ByteArray.data s)) fun
 b => isMk (↑(UInt8.toNat b) : Int)) = true, AEx.exit 0, W0c_sIsSymbolLa s, [Orc.fin []]), ((List.all (Array.toList (ByteArray.data s)) fun b => isMk (↑(UInt8.toNat b) : Int)) =
 false, AEx.ret, W1c_sIsSymbolLa s (lb false), [Orc.fin []])]]] [Orc.bool false, Orc.bool false, Orc.ghost (Ghost.sel [] [0, 3]), Orc.loop (ByteArray.size s - 0) (Lc_sIsSymbolLa s
 0) (Ic_sIsSymbolLa s) [((List.all (Array.toList (ByteArray.data s)) fun b => isMk (↑(UInt8.toNat b) : Int)) = true, AEx.exit 0, W0c_sIsSymbolLa s, [Orc.fin []]), ((List.all
 (Array.toList (ByteArray.data s)) fun b => isMk (↑(UInt8.toNat b) : Int)) = false, AEx.ret, W1c_sIsSymbolLa s (lb false), [Orc.fin []])]]]]] (finK Try.prog [ResultVar.tmp 2] []
 (AV.sv (lb (isSym s)))) = (List.length (Array.toList (ByteArray.data s)) ≤ 9223372036854775807 → P_c_l1In (a2_c_sIsSymbol s) 1 16 ∧ ((!decide (1 ≤ (a2_c_sIsSymbol s) ∧
 (a2_c_sIsSymbol s) ≤ 16)) = true → true = true ∧ true = true ∧ ObsEq [] [] ∧ AV.sv (lb false) = AV.sv (lb (isSym s))) ∧ ((!decide (1 ≤ (a2_c_sIsSymbol s) ∧ (a2_c_sIsSymbol s) ≤
 16)) = false → ((0 : Int) ≤ 0 ∧ 0 < List.length (Array.toList (ByteArray.data s))) ∧ P_c_sDigit (a1_c_sIsSymbol s) ∧ (isDig (a1_c_sIsSymbol s) = true → true = true ∧ ObsEq [] [] ∧
 AV.sv (lb false) = AV.sv (lb (isSym s))) ∧ (isDig (a1_c_sIsSymbol s) = false → ((0 : Int) ≤ 0 ∧ 0 < List.length (Array.toList (ByteArray.data s))) ∧ (decide ((a1_c_sIsSymbol s) =
 45) = true → List.length (Array.toList (ByteArray.data s)) ≤ 9223372036854775807 → (decide (1 < (a2_c_sIsSymbol s)) = true → ((0 : Int) ≤ 1 ∧ 1 < List.length (Array.toList
 (ByteArray.data s))) ∧ P_c_sDigit (a3_c_sIsSymbol s) ∧ (isDig (a3_c_sIsSymbol s) = true → ObsEq [] [] ∧ AV.sv (lb false) = AV.sv (lb (isSym s))) ∧ (isDig (a3_c_sIsSymbol s) =
 false → Tc_sIsSymbolLa s (li 0) = Lc_sIsSymbolLa s 0 ∧ Ic_sIsSymbolLa s (ByteArray.size s - 0) (Lc_sIsSymbolLa s 0) ∧ LoopSem Try.prog (loopAt Try.f216 0) (Ic_sIsSymbolLa s)
 (Yc_sIsSymbolLa s) ∧ ((List.all (Array.toList (ByteArray.data s)) fun b => isMk (↑(UInt8.toNat b) : Int)) = true → ObsEq [] [] ∧ AV.sv (lb true) = AV.sv (lb (isSym s))) ∧
 ((List.all (Array.toList (ByteArray.data s)) fun b => isMk (↑(UInt8.toNat b) : Int)) = false → ObsEq [] [] ∧ AV.sv (lb false) = AV.sv (lb (isSym s))) ∧ True)) ∧ (decide (1 <
 (a2_c_sIsSymbol s)) = false → false = false ∧ Tc_sIsSymbolLa s (li 0) = Lc_sIsSymbolLa s 0 ∧ Ic_sIsSymbolLa s (ByteArray.size s - 0) (Lc_sIsSymbolLa s 0) ∧ LoopSem Try.prog
 (loopAt Try.f216 0) (Ic_sIsSymbolLa s) (Yc_sIsSymbolLa s) ∧ ((List.all (Array.toList (ByteArray.data s)) fun b => isMk (↑(UInt8.toNat b) : Int)) = true → ObsEq [] [] ∧ AV.sv (lb
 true) = AV.sv (lb (isSym s))) ∧ ((List.all (Array.toList (ByteArray.data s)) fun b => isMk (↑(UInt8.toNat b) : Int)) = false → ObsEq [] [] ∧ AV.sv (lb false) = AV.sv (lb (isSym
 s))) ∧ True)) ∧ (decide ((a1_c_sIsSymbol s) = 45) = false → false = false ∧ false = false ∧ Tc_sIsSymbolLa s (li 0) = Lc_sIsSymbolLa s 0 ∧ Ic_sIsSymbolLa s (ByteArray.size s - 0)
 (Lc_sIsSymbolLa s 0) ∧ LoopSem Try.prog (loopAt Try.f216 0) (Ic_sIsSymbolLa s) (Yc_sIsSymbolLa s) ∧ ((List.all (Array.toList (ByteArray.data s)) fun b => isMk (↑(UInt8.toNat b) :
 Int)) = true → ObsEq [] [] ∧ AV.sv (lb true) = AV.sv (lb (isSym s))) ∧ ((List.all (Array.toList (ByteArray.data s)) fun b => isMk (↑(UInt8.toNat b) : Int)) = false → ObsEq [] [] ∧
 AV.sv (lb false) = AV.sv (lb (isSym s))) ∧ True)))) := by kernel_rfl
theorem c_sIsSymbol (s : ByteArray)  : P_c_sIsSymbol s := by
  refine CallOK.ofRun wide (run_c_sIsSymbol s) Try.call216 Try.func216 rfl rfl rfl ?_
  try delta a1_c_sIsSymbol a2_c_sIsSymbol a3_c_sIsSymbol
  with_reducible repeat' (first | apply And.intro | exact flatI | exact flatS | exact rowLens | (intro; skip) | apply obsN | apply obsC | apply obA | apply obM | apply obB | apply svA | apply tupA | apply lcA | apply lcS | apply svC | apply liC | apply lbC | apply lsC | apply vIc | apply vBc | apply vSc | apply vLc | apply mapC | apply Hc_sIsSymbolLa | apply Ec_sIsSymbolLa | apply Sc_sIsSymbolLa | apply EW1c_sIsSymbolLa | apply c_l1In | apply c_sDigit | apply c_sMark)
  all_goals (try simp only [std] at *)
  all_goals (try (first | with_reducible apply c_l1In | with_reducible apply c_sDigit | with_reducible apply c_sMark | (simp only [← List.map_append]; first | with_reducible apply c_l1In | with_reducible apply c_sDigit | with_reducible apply c_sMark)))
  all_goals (try (first | with_reducible rfl | omega | assumption | (refine (decide_eq_true ?_).symm; assumption) | (refine (decide_eq_false ?_).symm; assumption) | (refine rowGet ?_; (first | omega | (simp only [std]; omega) | grind)) | (refine getC ?_ rfl; (first | omega | (simp only [std]; omega) | grind)) | (refine fill_step ?_ ?_; (first | omega | (simp only [std]; omega) | grind); (first | rfl | exact (Row.eq _).trans rfl)) | (refine fill_init ?_; (first | rfl | exact (Row.eq _).trans rfl)) | (show (_ : St) = _; rfl) | grind [isSym, snocI, snocS, rowSnoc]))
abbrev P_c_iIsSymbol (s : ByteArray) : Prop := CallOK Try.prog 127 [] [ls s] [] (.sv (lb (isSym s)))
def Tc_iIsSymbolLa (s : ByteArray) (x0 : SV) : St := St.mk (regsOf 43 [(0, AV.sv (ls s)), (3, AV.sv x0)]) [] 0 
def Lc_iIsSymbolLa (s : ByteArray) (k : Nat) : St := Tc_iIsSymbolLa s (li (↑k : Int)) 
def Ic_iIsSymbolLa (s : ByteArray) : Nat → St → Prop := Head (Lc_iIsSymbolLa s) (fun k => k ≤ ByteArray.size s ∧ ByteArray.size s ≤ 16 ∧ (List.all (List.take k (Array.toList
 (ByteArray.data s))) fun b => isMk (↑(UInt8.toNat b) : Int)) = true) fun k => ByteArray.size s - k 
def W0c_iIsSymbolLa (s : ByteArray) : St := St.mk (regsOf 43 []) [] 0 
def W1c_iIsSymbolLa (s : ByteArray) (x0 : SV) : St := St.mk (regsOf 43 [(2, AV.sv x0)]) [] 0 
def Yc_iIsSymbolLa (s : ByteArray) : List (Prop × AEx × St) := [((List.all (Array.toList (ByteArray.data s)) fun b => isMk (↑(UInt8.toNat b) : Int)) = true, AEx.exit 0,
 W0c_iIsSymbolLa s), ((List.all (Array.toList (ByteArray.data s)) fun b => isMk (↑(UInt8.toNat b) : Int)) = false, AEx.ret, W1c_iIsSymbolLa s (lb false))]
theorem Hc_iIsSymbolLa {s : ByteArray} {k : Nat} {m : Nat} (h : (fun k => k ≤ ByteArray.size s ∧ ByteArray.size s ≤ 16 ∧ (List.all (List.take k (Array.toList (ByteArray.data s)))
 fun b => isMk (↑(UInt8.toNat b) : Int)) = true) k) (hm : (fun k => ByteArray.size s - k) k = m) : Ic_iIsSymbolLa s m (Lc_iIsSymbolLa s k) := hm ▸ Head.mk h
theorem Ec_iIsSymbolLa {s : ByteArray} {k : Nat} {x0 : SV} (h0 : x0 = (li (↑k : Int))) : Tc_iIsSymbolLa s x0 = Lc_iIsSymbolLa s k := by
  rw [h0]
  rfl
theorem EW1c_iIsSymbolLa {s : ByteArray} {x0 y0 : SV} (h0 : x0 = y0) : W1c_iIsSymbolLa s x0 = W1c_iIsSymbolLa s y0 := by rw [h0]
theorem run_c_iIsSymbolLa (s : ByteArray) (k : Nat) : aexec Try.prog (loopAt Try.f127 0) (Lc_iIsSymbolLa s k) [Orc.br [Orc.call [Mode.rd] [] (AV.sv (lb (isMk (↑(UInt8.toNat
 (List.getD (Array.toList (ByteArray.data s)) (Int.toNat (↑k : Int)) (0 : UInt8))) : Int)))), Orc.br [Orc.ghost (Ghost.sel [] [2]), Orc.out 1] [Orc.ghost (Ghost.sel [] [0, 3]),
 Orc.goto (ByteArray.size s - (k + 1)) (Lc_iIsSymbolLa s (k + 1))]] [Orc.ghost (Ghost.sel [] []), Orc.out 0]] (loopK (Ic_iIsSymbolLa s) (Yc_iIsSymbolLa s) (ByteArray.size s - k)) =
 (List.length (Array.toList (ByteArray.data s)) ≤ 9223372036854775807 → (decide ((↑k : Int) < (↑(List.length (Array.toList (ByteArray.data s))) : Int)) = true → (0 ≤ (↑k : Int) ∧
 Int.toNat (↑k : Int) < List.length (Array.toList (ByteArray.data s))) ∧ P_c_iMark (↑(UInt8.toNat (List.getD (Array.toList (ByteArray.data s)) (Int.toNat (↑k : Int)) (0 : UInt8)))
 : Int) ∧ ((!isMk (↑(UInt8.toNat (List.getD (Array.toList (ByteArray.data s)) (Int.toNat (↑k : Int)) (0 : UInt8))) : Int)) = true → (List.all (Array.toList (ByteArray.data s)) fun
 b => isMk (↑(UInt8.toNat b) : Int)) = false ∧ W1c_iIsSymbolLa s (lb false) = W1c_iIsSymbolLa s (lb false)) ∧ ((!isMk (↑(UInt8.toNat (List.getD (Array.toList (ByteArray.data s))
 (Int.toNat (↑k : Int)) (0 : UInt8))) : Int)) = false → rng IntKind.i64 ((↑k : Int) + 1) ∧ ByteArray.size s - (k + 1) < ByteArray.size s - k ∧ Tc_iIsSymbolLa s (li ((↑k : Int) +
 1)) = Lc_iIsSymbolLa s (k + 1) ∧ Ic_iIsSymbolLa s (ByteArray.size s - (k + 1)) (Lc_iIsSymbolLa s (k + 1)))) ∧ (decide ((↑k : Int) < (↑(List.length (Array.toList (ByteArray.data
 s))) : Int)) = false → (List.all (Array.toList (ByteArray.data s)) fun b => isMk (↑(UInt8.toNat b) : Int)) = true ∧ W0c_iIsSymbolLa s = W0c_iIsSymbolLa s)) := by kernel_rfl
theorem Sc_iIsSymbolLa (s : ByteArray)  : LoopSem Try.prog (loopAt Try.f127 0) (Ic_iIsSymbolLa s) (Yc_iIsSymbolLa s) := by
  refine LoopSem.ofHead wide fun k h => ⟨_, _, run_c_iIsSymbolLa s k, ?_⟩
  have g1 := @all_stop s.data.toList (fun b => isMk b.toNat) k
  have g2 := @all_go s.data.toList (fun b => isMk b.toNat) k
  have g3 := @all_all s.data.toList (fun b => isMk b.toNat) k
  with_reducible repeat' (first | apply And.intro | exact flatI | exact flatS | exact rowLens | (intro; skip) | apply obsN | apply obsC | apply obA | apply obM | apply obB | apply svA | apply tupA | apply lcA | apply lcS | apply svC | apply liC | apply lbC | apply lsC | apply vIc | apply vBc | apply vSc | apply vLc | apply mapC | apply Hc_iIsSymbolLa | apply Ec_iIsSymbolLa | apply EW1c_iIsSymbolLa | apply c_l1In | apply c_iDigit | apply c_iMark)
  all_goals (try simp only [std] at *)
  all_goals (try (first | with_reducible apply c_l1In | with_reducible apply c_iDigit | with_reducible apply c_iMark | (simp only [← List.map_append]; first | with_reducible apply c_l1In | with_reducible apply c_iDigit | with_reducible apply c_iMark)))
  all_goals (try (first | with_reducible rfl | omega | assumption | (refine (decide_eq_true ?_).symm; assumption) | (refine (decide_eq_false ?_).symm; assumption) | (refine rowGet ?_; (first | omega | (simp only [std]; omega) | grind)) | (refine getC ?_ rfl; (first | omega | (simp only [std]; omega) | grind)) | (refine fill_step ?_ ?_; (first | omega | (simp only [std]; omega) | grind); (first | rfl | exact (Row.eq _).trans rfl)) | (refine fill_init ?_; (first | rfl | exact (Row.eq _).trans rfl)) | (show (_ : St) = _; rfl) | grind [snocI, snocS, rowSnoc]))
abbrev a1_c_iIsSymbol (s : ByteArray) := (↑(UInt8.toNat (List.getD (Array.toList (ByteArray.data s)) 0 (0 : UInt8))) : Int)
abbrev a2_c_iIsSymbol (s : ByteArray) := (↑(UInt8.toNat (List.getD (Array.toList (ByteArray.data s)) 1 (0 : UInt8))) : Int)
theorem run_c_iIsSymbol (s : ByteArray) : aexec Try.prog (Option.getD (Func.body Try.f127) Code.skip) (entry [] [ls s] 43) [Orc.br [Orc.bool true, Orc.bool true, Orc.bool true,
 Orc.fin []] [Orc.br [Orc.bool true, Orc.bool true, Orc.fin []] [Orc.call [Mode.rd] [] (AV.sv (lb (isDig (a1_c_iIsSymbol s)))), Orc.br [Orc.bool true, Orc.fin []] [Orc.br [Orc.br
 [Orc.call [Mode.rd] [] (AV.sv (lb (isDig (a2_c_iIsSymbol s)))), Orc.br [Orc.fin []] [Orc.ghost (Ghost.sel [] [0, 3]), Orc.loop (ByteArray.size s - 0) (Lc_iIsSymbolLa s 0)
 (Ic_iIsSymbolLa s) [((List.all (Array.toList (ByteArray.data s)) fun b => isMk (↑(UInt8.toNat b) : Int)) = true, AEx.exit 0, W0c_iIsSymbolLa s, [Orc.fin []]), ((List.all
 (Array.toList (ByteArray.data s)) fun b => isMk (↑(UInt8.toNat b) : Int)) = false, AEx.ret, W1c_iIsSymbolLa s (lb false), [Orc.fin []])]]] [Orc.bool false, Orc.ghost (Ghost.sel []
 [0, 3]), Orc.loop (ByteArray.size s - 0) (Lc_iIsSymbolLa s 0) (Ic_iIsSymbolLa s) [((List.all (Array.toList (ByteArray.data s)) fun b => isMk (↑(UInt8.toNat b) : Int)) = true,
 AEx.exit 0, W0c_iIsSymbolLa s, [Orc.fin []]), ((List.all (Array.toList (ByteArray.data s)) fun b => isMk (↑(UInt8.toNat b) : Int)) = false, AEx.ret, W1c_iIsSymbolLa s (lb false),
 [Orc.fin []])]]] [Orc.bool false, Orc.bool false, Orc.ghost (Ghost.sel [] [0, 3]), Orc.loop (ByteArray.size s - 0) (Lc_iIsSymbolLa s 0) (Ic_iIsSymbolLa s) [((List.all
 (Array.toList (ByteArray.data s)) fun b => isMk (↑(UInt8.toNat b) : Int)) = true, AEx.exit 0, W0c_iIsSymbolLa s, [Orc.fin []]), ((List.all (Array.toList (ByteArray.data s)) fun b
 => isMk (↑(UInt8.toNat b) : Int)) = false, AEx.ret, W1c_iIsSymbolLa s (lb false), [Orc.fin []])]]]]]] (finK Try.prog [ResultVar.tmp 2] [] (AV.sv (lb (isSym s)))) = (List.length
 (Array.toList (ByteArray.data s)) ≤ 9223372036854775807 → (decide ((↑(List.length (Array.toList (ByteArray.data s))) : Int) < 1) = true → true = true ∧ true = true ∧ true = true ∧
 ObsEq [] [] ∧ AV.sv (lb false) = AV.sv (lb (isSym s))) ∧ (decide ((↑(List.length (Array.toList (ByteArray.data s))) : Int) < 1) = false → List.length (Array.toList (ByteArray.data
 s)) ≤ 9223372036854775807 → (decide (16 < (↑(List.length (Array.toList (ByteArray.data s))) : Int)) = true → true = true ∧ true = true ∧ ObsEq [] [] ∧ AV.sv (lb false) = AV.sv (lb
 (isSym s))) ∧ (decide (16 < (↑(List.length (Array.toList (ByteArray.data s))) : Int)) = false → ((0 : Int) ≤ 0 ∧ 0 < List.length (Array.toList (ByteArray.data s))) ∧ P_c_iDigit
 (a1_c_iIsSymbol s) ∧ (isDig (a1_c_iIsSymbol s) = true → true = true ∧ ObsEq [] [] ∧ AV.sv (lb false) = AV.sv (lb (isSym s))) ∧ (isDig (a1_c_iIsSymbol s) = false → ((0 : Int) ≤ 0 ∧
 0 < List.length (Array.toList (ByteArray.data s))) ∧ (decide ((a1_c_iIsSymbol s) = 45) = true → List.length (Array.toList (ByteArray.data s)) ≤ 9223372036854775807 → (decide (1 <
 (↑(List.length (Array.toList (ByteArray.data s))) : Int)) = true → ((0 : Int) ≤ 1 ∧ 1 < List.length (Array.toList (ByteArray.data s))) ∧ P_c_iDigit (a2_c_iIsSymbol s) ∧ (isDig
 (a2_c_iIsSymbol s) = true → ObsEq [] [] ∧ AV.sv (lb false) = AV.sv (lb (isSym s))) ∧ (isDig (a2_c_iIsSymbol s) = false → Tc_iIsSymbolLa s (li 0) = Lc_iIsSymbolLa s 0 ∧
 Ic_iIsSymbolLa s (ByteArray.size s - 0) (Lc_iIsSymbolLa s 0) ∧ LoopSem Try.prog (loopAt Try.f127 0) (Ic_iIsSymbolLa s) (Yc_iIsSymbolLa s) ∧ ((List.all (Array.toList
 (ByteArray.data s)) fun b => isMk (↑(UInt8.toNat b) : Int)) = true → ObsEq [] [] ∧ AV.sv (lb true) = AV.sv (lb (isSym s))) ∧ ((List.all (Array.toList (ByteArray.data s)) fun b =>
 isMk (↑(UInt8.toNat b) : Int)) = false → ObsEq [] [] ∧ AV.sv (lb false) = AV.sv (lb (isSym s))) ∧ True)) ∧ (decide (1 < (↑(List.length (Array.toList (ByteArray.data s))) : Int)) =
 false → false = false ∧ Tc_iIsSymbolLa s (li 0) = Lc_iIsSymbolLa s 0 ∧ Ic_iIsSymbolLa s (ByteArray.size s - 0) (Lc_iIsSymbolLa s 0) ∧ LoopSem Try.prog (loopAt Try.f127 0)
 (Ic_iIsSymbolLa s) (Yc_iIsSymbolLa s) ∧ ((List.all (Array.toList (ByteArray.data s)) fun b => isMk (↑(UInt8.toNat b) : Int)) = true → ObsEq [] [] ∧ AV.sv (lb true) = AV.sv (lb
 (isSym s))) ∧ ((List.all (Array.toList (ByteArray.data s)) fun b => isMk (↑(UInt8.toNat b) : Int)) = false → ObsEq [] [] ∧ AV.sv (lb false) = AV.sv (lb (isSym s))) ∧ True)) ∧
 (decide ((a1_c_iIsSymbol s) = 45) = false → false = false ∧ false = false ∧ Tc_iIsSymbolLa s (li 0) = Lc_iIsSymbolLa s 0 ∧ Ic_iIsSymbolLa s (ByteArray.size s - 0) (Lc_iIsSymbolLa
 s 0) ∧ LoopSem Try.prog (loopAt Try.f127 0) (Ic_iIsSymbolLa s) (Yc_iIsSymbolLa s) ∧ ((List.all (Array.toList (ByteArray.data s)) fun b => isMk (↑(UInt8.toNat b) : Int)) = true →
 ObsEq [] [] ∧ AV.sv (lb true) = AV.sv (lb (isSym s))) ∧ ((List.all (Array.toList (ByteArray.data s)) fun b => isMk (↑(UInt8.toNat b) : Int)) = false → ObsEq [] [] ∧ AV.sv (lb
 false) = AV.sv (lb (isSym s))) ∧ True))))) := by kernel_rfl
theorem c_iIsSymbol (s : ByteArray)  : P_c_iIsSymbol s := by
  refine CallOK.ofRun wide (run_c_iIsSymbol s) Try.call127 Try.func127 rfl rfl rfl ?_
  try delta a1_c_iIsSymbol a2_c_iIsSymbol
  with_reducible repeat' (first | apply And.intro | exact flatI | exact flatS | exact rowLens | (intro; skip) | apply obsN | apply obsC | apply obA | apply obM | apply obB | apply svA | apply tupA | apply lcA | apply lcS | apply svC | apply liC | apply lbC | apply lsC | apply vIc | apply vBc | apply vSc | apply vLc | apply mapC | apply Hc_iIsSymbolLa | apply Ec_iIsSymbolLa | apply Sc_iIsSymbolLa | apply EW1c_iIsSymbolLa | apply c_l1In | apply c_iDigit | apply c_iMark)
  all_goals (try simp only [std] at *)
  all_goals (try (first | with_reducible apply c_l1In | with_reducible apply c_iDigit | with_reducible apply c_iMark | (simp only [← List.map_append]; first | with_reducible apply c_l1In | with_reducible apply c_iDigit | with_reducible apply c_iMark)))
  all_goals (try (first | with_reducible rfl | omega | assumption | (refine (decide_eq_true ?_).symm; assumption) | (refine (decide_eq_false ?_).symm; assumption) | (refine rowGet ?_; (first | omega | (simp only [std]; omega) | grind)) | (refine getC ?_ rfl; (first | omega | (simp only [std]; omega) | grind)) | (refine fill_step ?_ ?_; (first | omega | (simp only [std]; omega) | grind); (first | rfl | exact (Row.eq _).trans rfl)) | (refine fill_init ?_; (first | rfl | exact (Row.eq _).trans rfl)) | (show (_ : St) = _; rfl) | grind [isSym, snocI, snocS, rowSnoc]))
abbrev P_c_sString (s : ByteArray) : Prop := CallOK Try.prog 285 [] [ls s] [] (.sv (lb (isStr s)))
def Tc_sStringLa (s : ByteArray) (x0 : SV) : St := St.mk (regsOf 29 [(0, AV.sv (ls s)), (3, AV.sv x0)]) [] 0 
def Lc_sStringLa (s : ByteArray) (k : Nat) : St := Tc_sStringLa s (li (↑k : Int)) 
def Ic_sStringLa (s : ByteArray) : Nat → St → Prop := Head (Lc_sStringLa s) (fun k => k ≤ ByteArray.size s ∧ (List.all (List.take k (Array.toList (ByteArray.data s))) fun b =>
 isStB (↑(UInt8.toNat b) : Int)) = true) fun k => ByteArray.size s - k 
def W0c_sStringLa (s : ByteArray) : St := St.mk (regsOf 29 [(0, AV.sv (ls s))]) [] 0 
def W1c_sStringLa (s : ByteArray) (x0 : SV) : St := St.mk (regsOf 29 [(2, AV.sv x0)]) [] 0 
def Yc_sStringLa (s : ByteArray) : List (Prop × AEx × St) := [((List.all (Array.toList (ByteArray.data s)) fun b => isStB (↑(UInt8.toNat b) : Int)) = true, AEx.exit 0,
 W0c_sStringLa s), ((List.all (Array.toList (ByteArray.data s)) fun b => isStB (↑(UInt8.toNat b) : Int)) = false, AEx.ret, W1c_sStringLa s (lb false))]
theorem Hc_sStringLa {s : ByteArray} {k : Nat} {m : Nat} (h : (fun k => k ≤ ByteArray.size s ∧ (List.all (List.take k (Array.toList (ByteArray.data s))) fun b => isStB
 (↑(UInt8.toNat b) : Int)) = true) k) (hm : (fun k => ByteArray.size s - k) k = m) : Ic_sStringLa s m (Lc_sStringLa s k) := hm ▸ Head.mk h
theorem Ec_sStringLa {s : ByteArray} {k : Nat} {x0 : SV} (h0 : x0 = (li (↑k : Int))) : Tc_sStringLa s x0 = Lc_sStringLa s k := by
  rw [h0]
  rfl
theorem EW1c_sStringLa {s : ByteArray} {x0 y0 : SV} (h0 : x0 = y0) : W1c_sStringLa s x0 = W1c_sStringLa s y0 := by rw [h0]
theorem run_c_sStringLa (s : ByteArray) (k : Nat) : aexec Try.prog (loopAt Try.f285 0) (Lc_sStringLa s k) [Orc.br [Orc.br [Orc.bool true, Orc.bool true, Orc.ghost (Ghost.sel []
 [2]), Orc.out 1] [Orc.br [Orc.bool true, Orc.ghost (Ghost.sel [] [2]), Orc.out 1] [Orc.br [Orc.ghost (Ghost.sel [] [2]), Orc.out 1] [Orc.ghost (Ghost.sel [] [0, 3]), Orc.goto
 (ByteArray.size s - (k + 1)) (Lc_sStringLa s (k + 1))]]]] [Orc.ghost (Ghost.sel [] [0]), Orc.out 0]] (loopK (Ic_sStringLa s) (Yc_sStringLa s) (ByteArray.size s - k)) =
 (List.length (Array.toList (ByteArray.data s)) ≤ 9223372036854775807 → (decide ((↑k : Int) < (↑(List.length (Array.toList (ByteArray.data s))) : Int)) = true → (0 ≤ (↑k : Int) ∧
 Int.toNat (↑k : Int) < List.length (Array.toList (ByteArray.data s))) ∧ (decide ((↑(UInt8.toNat (List.getD (Array.toList (ByteArray.data s)) (Int.toNat (↑k : Int)) (0 : UInt8))) :
 Int) < 32) = true → true = true ∧ true = true ∧ (List.all (Array.toList (ByteArray.data s)) fun b => isStB (↑(UInt8.toNat b) : Int)) = false ∧ W1c_sStringLa s (lb false) =
 W1c_sStringLa s (lb false)) ∧ (decide ((↑(UInt8.toNat (List.getD (Array.toList (ByteArray.data s)) (Int.toNat (↑k : Int)) (0 : UInt8))) : Int) < 32) = false → (0 ≤ (↑k : Int) ∧
 Int.toNat (↑k : Int) < List.length (Array.toList (ByteArray.data s))) ∧ (decide (126 < (↑(UInt8.toNat (List.getD (Array.toList (ByteArray.data s)) (Int.toNat (↑k : Int)) (0 :
 UInt8))) : Int)) = true → true = true ∧ (List.all (Array.toList (ByteArray.data s)) fun b => isStB (↑(UInt8.toNat b) : Int)) = false ∧ W1c_sStringLa s (lb false) = W1c_sStringLa s
 (lb false)) ∧ (decide (126 < (↑(UInt8.toNat (List.getD (Array.toList (ByteArray.data s)) (Int.toNat (↑k : Int)) (0 : UInt8))) : Int)) = false → (0 ≤ (↑k : Int) ∧ Int.toNat (↑k :
 Int) < List.length (Array.toList (ByteArray.data s))) ∧ (decide ((↑(UInt8.toNat (List.getD (Array.toList (ByteArray.data s)) (Int.toNat (↑k : Int)) (0 : UInt8))) : Int) = 34) =
 true → (List.all (Array.toList (ByteArray.data s)) fun b => isStB (↑(UInt8.toNat b) : Int)) = false ∧ W1c_sStringLa s (lb false) = W1c_sStringLa s (lb false)) ∧ (decide
 ((↑(UInt8.toNat (List.getD (Array.toList (ByteArray.data s)) (Int.toNat (↑k : Int)) (0 : UInt8))) : Int) = 34) = false → rng IntKind.i64 ((↑k : Int) + 1) ∧ ByteArray.size s - (k +
 1) < ByteArray.size s - k ∧ Tc_sStringLa s (li ((↑k : Int) + 1)) = Lc_sStringLa s (k + 1) ∧ Ic_sStringLa s (ByteArray.size s - (k + 1)) (Lc_sStringLa s (k + 1)))))) ∧ (decide ((↑k
 : Int) < (↑(List.length (Array.toList (ByteArray.data s))) : Int)) = false → (List.all (Array.toList (ByteArray.data s)) fun b => isStB (↑(UInt8.toNat b) : Int)) = true ∧
 W0c_sStringLa s = W0c_sStringLa s)) := by kernel_rfl
theorem Sc_sStringLa (s : ByteArray)  : LoopSem Try.prog (loopAt Try.f285 0) (Ic_sStringLa s) (Yc_sStringLa s) := by
  refine LoopSem.ofHead wide fun k h => ⟨_, _, run_c_sStringLa s k, ?_⟩
  have g1 := @all_stop s.data.toList (fun b => isStB b.toNat) k
  have g2 := @all_go s.data.toList (fun b => isStB b.toNat) k
  have g3 := @all_all s.data.toList (fun b => isStB b.toNat) k
  with_reducible repeat' (first | apply And.intro | exact flatI | exact flatS | exact rowLens | (intro; skip) | apply obsN | apply obsC | apply obA | apply obM | apply obB | apply svA | apply tupA | apply lcA | apply lcS | apply svC | apply liC | apply lbC | apply lsC | apply vIc | apply vBc | apply vSc | apply vLc | apply mapC | apply Hc_sStringLa | apply Ec_sStringLa | apply EW1c_sStringLa)
  all_goals (try simp only [std] at *)
  all_goals (try (first | with_reducible rfl | omega | assumption | (refine (decide_eq_true ?_).symm; assumption) | (refine (decide_eq_false ?_).symm; assumption) | (refine rowGet ?_; (first | omega | (simp only [std]; omega) | grind)) | (refine getC ?_ rfl; (first | omega | (simp only [std]; omega) | grind)) | (refine fill_step ?_ ?_; (first | omega | (simp only [std]; omega) | grind); (first | rfl | exact (Row.eq _).trans rfl)) | (refine fill_init ?_; (first | rfl | exact (Row.eq _).trans rfl)) | (show (_ : St) = _; rfl) | grind [isStB, snocI, snocS, rowSnoc]))
theorem run_c_sString (s : ByteArray) : aexec Try.prog (Option.getD (Func.body Try.f285) Code.skip) (entry [] [ls s] 29) [Orc.ghost (Ghost.sel [] [0, 3]), Orc.loop (ByteArray.size
 s - 0) (Lc_sStringLa s 0) (Ic_sStringLa s) [((List.all (Array.toList (ByteArray.data s)) fun b => isStB (↑(UInt8.toNat b) : Int)) = true, AEx.exit 0, W0c_sStringLa s, [Orc.fin
 []]), ((List.all (Array.toList (ByteArray.data s)) fun b => isStB (↑(UInt8.toNat b) : Int)) = false, AEx.ret, W1c_sStringLa s (lb false), [Orc.fin []])]] (finK Try.prog
 [ResultVar.tmp 2] [] (AV.sv (lb (isStr s)))) = (Tc_sStringLa s (li 0) = Lc_sStringLa s 0 ∧ Ic_sStringLa s (ByteArray.size s - 0) (Lc_sStringLa s 0) ∧ LoopSem Try.prog (loopAt
 Try.f285 0) (Ic_sStringLa s) (Yc_sStringLa s) ∧ ((List.all (Array.toList (ByteArray.data s)) fun b => isStB (↑(UInt8.toNat b) : Int)) = true → List.length (Array.toList
 (ByteArray.data s)) ≤ 9223372036854775807 → ObsEq [] [] ∧ AV.sv (lb (decide ((↑(List.length (Array.toList (ByteArray.data s))) : Int) ≤ 20))) = AV.sv (lb (isStr s))) ∧ ((List.all
 (Array.toList (ByteArray.data s)) fun b => isStB (↑(UInt8.toNat b) : Int)) = false → ObsEq [] [] ∧ AV.sv (lb false) = AV.sv (lb (isStr s))) ∧ True) := by kernel_rfl
theorem c_sString (s : ByteArray)  : P_c_sString s := by
  refine CallOK.ofRun wide (run_c_sString s) Try.call285 Try.func285 rfl rfl rfl ?_
  with_reducible repeat' (first | apply And.intro | exact flatI | exact flatS | exact rowLens | (intro; skip) | apply obsN | apply obsC | apply obA | apply obM | apply obB | apply svA | apply tupA | apply lcA | apply lcS | apply svC | apply liC | apply lbC | apply lsC | apply vIc | apply vBc | apply vSc | apply vLc | apply mapC | apply Hc_sStringLa | apply Ec_sStringLa | apply Sc_sStringLa | apply EW1c_sStringLa)
  all_goals (try simp only [std] at *)
  all_goals (try (first | with_reducible rfl | omega | assumption | (refine (decide_eq_true ?_).symm; assumption) | (refine (decide_eq_false ?_).symm; assumption) | (refine rowGet ?_; (first | omega | (simp only [std]; omega) | grind)) | (refine getC ?_ rfl; (first | omega | (simp only [std]; omega) | grind)) | (refine fill_step ?_ ?_; (first | omega | (simp only [std]; omega) | grind); (first | rfl | exact (Row.eq _).trans rfl)) | (refine fill_init ?_; (first | rfl | exact (Row.eq _).trans rfl)) | (show (_ : St) = _; rfl) | grind [isStr, snocI, snocS, rowSnoc]))
abbrev P_c_iString (s : ByteArray) : Prop := CallOK Try.prog 286 [] [ls s] [] (.sv (lb (isStr s)))
def Tc_iStringLa (s : ByteArray) (x0 : SV) : St := St.mk (regsOf 29 [(0, AV.sv (ls s)), (3, AV.sv x0)]) [] 0 
def Lc_iStringLa (s : ByteArray) (k : Nat) : St := Tc_iStringLa s (li (↑k : Int)) 
def Ic_iStringLa (s : ByteArray) : Nat → St → Prop := Head (Lc_iStringLa s) (fun k => k ≤ ByteArray.size s ∧ (List.all (List.take k (Array.toList (ByteArray.data s))) fun b =>
 isStB (↑(UInt8.toNat b) : Int)) = true) fun k => ByteArray.size s - k 
def W0c_iStringLa (s : ByteArray) : St := St.mk (regsOf 29 []) [] 0 
def W1c_iStringLa (s : ByteArray) (x0 : SV) : St := St.mk (regsOf 29 [(2, AV.sv x0)]) [] 0 
def Yc_iStringLa (s : ByteArray) : List (Prop × AEx × St) := [((List.all (Array.toList (ByteArray.data s)) fun b => isStB (↑(UInt8.toNat b) : Int)) = true, AEx.exit 0,
 W0c_iStringLa s), ((List.all (Array.toList (ByteArray.data s)) fun b => isStB (↑(UInt8.toNat b) : Int)) = false, AEx.ret, W1c_iStringLa s (lb false))]
theorem Hc_iStringLa {s : ByteArray} {k : Nat} {m : Nat} (h : (fun k => k ≤ ByteArray.size s ∧ (List.all (List.take k (Array.toList (ByteArray.data s))) fun b => isStB
 (↑(UInt8.toNat b) : Int)) = true) k) (hm : (fun k => ByteArray.size s - k) k = m) : Ic_iStringLa s m (Lc_iStringLa s k) := hm ▸ Head.mk h
theorem Ec_iStringLa {s : ByteArray} {k : Nat} {x0 : SV} (h0 : x0 = (li (↑k : Int))) : Tc_iStringLa s x0 = Lc_iStringLa s k := by
  rw [h0]
  rfl
theorem EW1c_iStringLa {s : ByteArray} {x0 y0 : SV} (h0 : x0 = y0) : W1c_iStringLa s x0 = W1c_iStringLa s y0 := by rw [h0]
theorem run_c_iStringLa (s : ByteArray) (k : Nat) : aexec Try.prog (loopAt Try.f286 0) (Lc_iStringLa s k) [Orc.br [Orc.br [Orc.bool true, Orc.bool true, Orc.ghost (Ghost.sel []
 [2]), Orc.out 1] [Orc.br [Orc.bool true, Orc.ghost (Ghost.sel [] [2]), Orc.out 1] [Orc.br [Orc.ghost (Ghost.sel [] [2]), Orc.out 1] [Orc.ghost (Ghost.sel [] [0, 3]), Orc.goto
 (ByteArray.size s - (k + 1)) (Lc_iStringLa s (k + 1))]]]] [Orc.ghost (Ghost.sel [] []), Orc.out 0]] (loopK (Ic_iStringLa s) (Yc_iStringLa s) (ByteArray.size s - k)) = (List.length
 (Array.toList (ByteArray.data s)) ≤ 9223372036854775807 → (decide ((↑k : Int) < (↑(List.length (Array.toList (ByteArray.data s))) : Int)) = true → (0 ≤ (↑k : Int) ∧ Int.toNat (↑k
 : Int) < List.length (Array.toList (ByteArray.data s))) ∧ (decide ((↑(UInt8.toNat (List.getD (Array.toList (ByteArray.data s)) (Int.toNat (↑k : Int)) (0 : UInt8))) : Int) < 32) =
 true → true = true ∧ true = true ∧ (List.all (Array.toList (ByteArray.data s)) fun b => isStB (↑(UInt8.toNat b) : Int)) = false ∧ W1c_iStringLa s (lb false) = W1c_iStringLa s (lb
 false)) ∧ (decide ((↑(UInt8.toNat (List.getD (Array.toList (ByteArray.data s)) (Int.toNat (↑k : Int)) (0 : UInt8))) : Int) < 32) = false → (0 ≤ (↑k : Int) ∧ Int.toNat (↑k : Int) <
 List.length (Array.toList (ByteArray.data s))) ∧ (decide (126 < (↑(UInt8.toNat (List.getD (Array.toList (ByteArray.data s)) (Int.toNat (↑k : Int)) (0 : UInt8))) : Int)) = true →
 true = true ∧ (List.all (Array.toList (ByteArray.data s)) fun b => isStB (↑(UInt8.toNat b) : Int)) = false ∧ W1c_iStringLa s (lb false) = W1c_iStringLa s (lb false)) ∧ (decide
 (126 < (↑(UInt8.toNat (List.getD (Array.toList (ByteArray.data s)) (Int.toNat (↑k : Int)) (0 : UInt8))) : Int)) = false → (0 ≤ (↑k : Int) ∧ Int.toNat (↑k : Int) < List.length
 (Array.toList (ByteArray.data s))) ∧ (decide ((↑(UInt8.toNat (List.getD (Array.toList (ByteArray.data s)) (Int.toNat (↑k : Int)) (0 : UInt8))) : Int) = 34) = true → (List.all
 (Array.toList (ByteArray.data s)) fun b => isStB (↑(UInt8.toNat b) : Int)) = false ∧ W1c_iStringLa s (lb false) = W1c_iStringLa s (lb false)) ∧ (decide ((↑(UInt8.toNat (List.getD
 (Array.toList (ByteArray.data s)) (Int.toNat (↑k : Int)) (0 : UInt8))) : Int) = 34) = false → rng IntKind.i64 ((↑k : Int) + 1) ∧ ByteArray.size s - (k + 1) < ByteArray.size s - k
 ∧ Tc_iStringLa s (li ((↑k : Int) + 1)) = Lc_iStringLa s (k + 1) ∧ Ic_iStringLa s (ByteArray.size s - (k + 1)) (Lc_iStringLa s (k + 1)))))) ∧ (decide ((↑k : Int) < (↑(List.length
 (Array.toList (ByteArray.data s))) : Int)) = false → (List.all (Array.toList (ByteArray.data s)) fun b => isStB (↑(UInt8.toNat b) : Int)) = true ∧ W0c_iStringLa s = W0c_iStringLa
 s)) := by kernel_rfl
theorem Sc_iStringLa (s : ByteArray)  : LoopSem Try.prog (loopAt Try.f286 0) (Ic_iStringLa s) (Yc_iStringLa s) := by
  refine LoopSem.ofHead wide fun k h => ⟨_, _, run_c_iStringLa s k, ?_⟩
  have g1 := @all_stop s.data.toList (fun b => isStB b.toNat) k
  have g2 := @all_go s.data.toList (fun b => isStB b.toNat) k
  have g3 := @all_all s.data.toList (fun b => isStB b.toNat) k
  with_reducible repeat' (first | apply And.intro | exact flatI | exact flatS | exact rowLens | (intro; skip) | apply obsN | apply obsC | apply obA | apply obM | apply obB | apply svA | apply tupA | apply lcA | apply lcS | apply svC | apply liC | apply lbC | apply lsC | apply vIc | apply vBc | apply vSc | apply vLc | apply mapC | apply Hc_iStringLa | apply Ec_iStringLa | apply EW1c_iStringLa)
  all_goals (try simp only [std] at *)
  all_goals (try (first | with_reducible rfl | omega | assumption | (refine (decide_eq_true ?_).symm; assumption) | (refine (decide_eq_false ?_).symm; assumption) | (refine rowGet ?_; (first | omega | (simp only [std]; omega) | grind)) | (refine getC ?_ rfl; (first | omega | (simp only [std]; omega) | grind)) | (refine fill_step ?_ ?_; (first | omega | (simp only [std]; omega) | grind); (first | rfl | exact (Row.eq _).trans rfl)) | (refine fill_init ?_; (first | rfl | exact (Row.eq _).trans rfl)) | (show (_ : St) = _; rfl) | grind [isStB, snocI, snocS, rowSnoc]))
theorem run_c_iString (s : ByteArray) : aexec Try.prog (Option.getD (Func.body Try.f286) Code.skip) (entry [] [ls s] 29) [Orc.br [Orc.fin []] [Orc.ghost (Ghost.sel [] [0, 3]),
 Orc.loop (ByteArray.size s - 0) (Lc_iStringLa s 0) (Ic_iStringLa s) [((List.all (Array.toList (ByteArray.data s)) fun b => isStB (↑(UInt8.toNat b) : Int)) = true, AEx.exit 0,
 W0c_iStringLa s, [Orc.fin []]), ((List.all (Array.toList (ByteArray.data s)) fun b => isStB (↑(UInt8.toNat b) : Int)) = false, AEx.ret, W1c_iStringLa s (lb false), [Orc.fin
 []])]]] (finK Try.prog [ResultVar.tmp 2] [] (AV.sv (lb (isStr s)))) = (List.length (Array.toList (ByteArray.data s)) ≤ 9223372036854775807 → (decide (20 < (↑(List.length
 (Array.toList (ByteArray.data s))) : Int)) = true → ObsEq [] [] ∧ AV.sv (lb false) = AV.sv (lb (isStr s))) ∧ (decide (20 < (↑(List.length (Array.toList (ByteArray.data s))) :
 Int)) = false → Tc_iStringLa s (li 0) = Lc_iStringLa s 0 ∧ Ic_iStringLa s (ByteArray.size s - 0) (Lc_iStringLa s 0) ∧ LoopSem Try.prog (loopAt Try.f286 0) (Ic_iStringLa s)
 (Yc_iStringLa s) ∧ ((List.all (Array.toList (ByteArray.data s)) fun b => isStB (↑(UInt8.toNat b) : Int)) = true → ObsEq [] [] ∧ AV.sv (lb true) = AV.sv (lb (isStr s))) ∧
 ((List.all (Array.toList (ByteArray.data s)) fun b => isStB (↑(UInt8.toNat b) : Int)) = false → ObsEq [] [] ∧ AV.sv (lb false) = AV.sv (lb (isStr s))) ∧ True)) := by kernel_rfl
theorem c_iString (s : ByteArray)  : P_c_iString s := by
  refine CallOK.ofRun wide (run_c_iString s) Try.call286 Try.func286 rfl rfl rfl ?_
  with_reducible repeat' (first | apply And.intro | exact flatI | exact flatS | exact rowLens | (intro; skip) | apply obsN | apply obsC | apply obA | apply obM | apply obB | apply svA | apply tupA | apply lcA | apply lcS | apply svC | apply liC | apply lbC | apply lsC | apply vIc | apply vBc | apply vSc | apply vLc | apply mapC | apply Hc_iStringLa | apply Ec_iStringLa | apply Sc_iStringLa | apply EW1c_iStringLa)
  all_goals (try simp only [std] at *)
  all_goals (try (first | with_reducible rfl | omega | assumption | (refine (decide_eq_true ?_).symm; assumption) | (refine (decide_eq_false ?_).symm; assumption) | (refine rowGet ?_; (first | omega | (simp only [std]; omega) | grind)) | (refine getC ?_ rfl; (first | omega | (simp only [std]; omega) | grind)) | (refine fill_step ?_ ?_; (first | omega | (simp only [std]; omega) | grind); (first | rfl | exact (Row.eq _).trans rfl)) | (refine fill_init ?_; (first | rfl | exact (Row.eq _).trans rfl)) | (show (_ : St) = _; rfl) | grind [isStr, snocI, snocS, rowSnoc]))
def nodD (k n : Int) (t : ByteArray) (i : Int) : Bool := decide (k = 0 ∧ n = 0 ∧ t.data.toList = []) || decide (k = 1 ∧ n = 0 ∧ isSym t = true ∧ i = 0) || decide (k = 2 ∧ -999999999 ≤ n ∧ n ≤ 999999999 ∧ t.data.toList = [] ∧ i = 0) || decide (k = 3 ∧ 0 ≤ n ∧ n ≤ 1 ∧ t.data.toList = [] ∧ i = 0) || decide (k = 4 ∧ n = 0 ∧ isStr t = true ∧ i = 0)
abbrev P_c_sNode (k : Int) (n : Int) (t : ByteArray) (i : Int) : Prop := CallOK Try.prog 271 [] [li k, li n, ls t, li i] [] (.sv (lb (nodD k n t i)))
theorem run_c_sNode (k : Int) (n : Int) (t : ByteArray) (i : Int) : aexec Try.prog (Option.getD (Func.body Try.f271) Code.skip) (entry [] [li k, li n, ls t, li i] 66) [Orc.br
 [Orc.br [Orc.fin []] [Orc.fin []]] [Orc.br [Orc.br [Orc.call [Mode.rd] [] (AV.sv (lb (isSym t))), Orc.br [Orc.fin []] [Orc.fin []]] [Orc.bool false, Orc.fin []]] [Orc.br [Orc.call
 [Mode.rd, Mode.rd, Mode.rd] [] (AV.sv (lb (decide ((-999999999 : Int) ≤ n ∧ n ≤ 999999999)))), Orc.br [Orc.br [Orc.fin []] [Orc.fin []]] [Orc.bool false, Orc.fin []]] [Orc.br
 [Orc.call [Mode.rd, Mode.rd, Mode.rd] [] (AV.sv (lb (decide (0 ≤ n ∧ n ≤ 1)))), Orc.br [Orc.br [Orc.fin []] [Orc.fin []]] [Orc.bool false, Orc.fin []]] [Orc.br [Orc.br [Orc.call
 [Mode.rd] [] (AV.sv (lb (isStr t))), Orc.br [Orc.fin []] [Orc.fin []]] [Orc.bool false, Orc.fin []]] [Orc.fin []]]]]]] (finK Try.prog [ResultVar.tmp 8] [] (AV.sv (lb (nodD k n t
 i)))) = ((decide (k = 0) = true → (decide (n = 0) = true → ObsEq [] [] ∧ AV.sv (lb (decide (Array.toList (ByteArray.data t) = []))) = AV.sv (lb (nodD k n t i))) ∧ (decide (n = 0)
 = false → ObsEq [] [] ∧ AV.sv (lb false) = AV.sv (lb (nodD k n t i)))) ∧ (decide (k = 0) = false → (decide (k = 1) = true → (decide (n = 0) = true → P_c_sIsSymbol t ∧ (isSym t =
 true → ObsEq [] [] ∧ AV.sv (lb (decide (i = 0))) = AV.sv (lb (nodD k n t i))) ∧ (isSym t = false → ObsEq [] [] ∧ AV.sv (lb false) = AV.sv (lb (nodD k n t i)))) ∧ (decide (n = 0) =
 false → false = false ∧ ObsEq [] [] ∧ AV.sv (lb false) = AV.sv (lb (nodD k n t i)))) ∧ (decide (k = 1) = false → (decide (k = 2) = true → P_c_l1In n (-999999999 : Int) 999999999 ∧
 (decide ((-999999999 : Int) ≤ n ∧ n ≤ 999999999) = true → (decide (Array.toList (ByteArray.data t) = []) = true → ObsEq [] [] ∧ AV.sv (lb (decide (i = 0))) = AV.sv (lb (nodD k n t
 i))) ∧ (decide (Array.toList (ByteArray.data t) = []) = false → ObsEq [] [] ∧ AV.sv (lb false) = AV.sv (lb (nodD k n t i)))) ∧ (decide ((-999999999 : Int) ≤ n ∧ n ≤ 999999999) =
 false → false = false ∧ ObsEq [] [] ∧ AV.sv (lb false) = AV.sv (lb (nodD k n t i)))) ∧ (decide (k = 2) = false → (decide (k = 3) = true → P_c_l1In n 0 1 ∧ (decide (0 ≤ n ∧ n ≤ 1)
 = true → (decide (Array.toList (ByteArray.data t) = []) = true → ObsEq [] [] ∧ AV.sv (lb (decide (i = 0))) = AV.sv (lb (nodD k n t i))) ∧ (decide (Array.toList (ByteArray.data t)
 = []) = false → ObsEq [] [] ∧ AV.sv (lb false) = AV.sv (lb (nodD k n t i)))) ∧ (decide (0 ≤ n ∧ n ≤ 1) = false → false = false ∧ ObsEq [] [] ∧ AV.sv (lb false) = AV.sv (lb (nodD k
 n t i)))) ∧ (decide (k = 3) = false → (decide (k = 4) = true → (decide (n = 0) = true → P_c_sString t ∧ (isStr t = true → ObsEq [] [] ∧ AV.sv (lb (decide (i = 0))) = AV.sv (lb
 (nodD k n t i))) ∧ (isStr t = false → ObsEq [] [] ∧ AV.sv (lb false) = AV.sv (lb (nodD k n t i)))) ∧ (decide (n = 0) = false → false = false ∧ ObsEq [] [] ∧ AV.sv (lb false) =
 AV.sv (lb (nodD k n t i)))) ∧ (decide (k = 4) = false → ObsEq [] [] ∧ AV.sv (lb false) = AV.sv (lb (nodD k n t i)))))))) := by kernel_rfl
theorem c_sNode (k n : Int) (t : ByteArray) (i : Int)  : P_c_sNode k n t i := by
  refine CallOK.ofRun wide (run_c_sNode k n t i) Try.call271 Try.func271 rfl rfl rfl ?_
  with_reducible repeat' (first | apply And.intro | exact flatI | exact flatS | exact rowLens | (intro; skip) | apply obsN | apply obsC | apply obA | apply obM | apply obB | apply svA | apply tupA | apply lcA | apply lcS | apply svC | apply liC | apply lbC | apply lsC | apply vIc | apply vBc | apply vSc | apply vLc | apply mapC | apply c_l1In | apply c_sIsSymbol | apply c_sString)
  all_goals (try simp only [std] at *)
  all_goals (try (first | with_reducible apply c_l1In | with_reducible apply c_sIsSymbol | with_reducible apply c_sString | (simp only [← List.map_append]; first | with_reducible apply c_l1In | with_reducible apply c_sIsSymbol | with_reducible apply c_sString)))
  all_goals (try (first | with_reducible rfl | omega | assumption | (refine (decide_eq_true ?_).symm; assumption) | (refine (decide_eq_false ?_).symm; assumption) | (refine rowGet ?_; (first | omega | (simp only [std]; omega) | grind)) | (refine getC ?_ rfl; (first | omega | (simp only [std]; omega) | grind)) | (refine fill_step ?_ ?_; (first | omega | (simp only [std]; omega) | grind); (first | rfl | exact (Row.eq _).trans rfl)) | (refine fill_init ?_; (first | rfl | exact (Row.eq _).trans rfl)) | (show (_ : St) = _; rfl) | grind [nodD, snocI, snocS, rowSnoc]))
abbrev P_c_iNode (k : Int) (n : Int) (t : ByteArray) (i : Int) : Prop := CallOK Try.prog 272 [] [li k, li n, ls t, li i] [] (.sv (lb (nodD k n t i)))
theorem run_c_iNode (k : Int) (n : Int) (t : ByteArray) (i : Int) : aexec Try.prog (Option.getD (Func.body Try.f272) Code.skip) (entry [] [li k, li n, ls t, li i] 74) [Orc.br
 [Orc.br [Orc.fin []] [Orc.fin []]] [Orc.br [Orc.br [Orc.br [Orc.call [Mode.rd] [] (AV.sv (lb (isSym t))), Orc.fin []] [Orc.fin []]] [Orc.bool false, Orc.fin []]] [Orc.br [Orc.br
 [Orc.br [Orc.br [Orc.fin []] [Orc.fin []]] [Orc.bool false, Orc.fin []]] [Orc.bool false, Orc.bool false, Orc.fin []]] [Orc.br [Orc.br [Orc.bool true, Orc.br [Orc.fin []] [Orc.fin
 []]] [Orc.br [Orc.br [Orc.fin []] [Orc.fin []]] [Orc.bool false, Orc.fin []]]] [Orc.br [Orc.br [Orc.br [Orc.call [Mode.rd] [] (AV.sv (lb (isStr t))), Orc.fin []] [Orc.fin []]]
 [Orc.bool false, Orc.fin []]] [Orc.fin []]]]]]] (finK Try.prog [ResultVar.tmp 8] [] (AV.sv (lb (nodD k n t i)))) = ((decide (k = 0) = true → (decide (n = 0) = true → ObsEq [] [] ∧
 AV.sv (lb (decide (Array.toList (ByteArray.data t) = []))) = AV.sv (lb (nodD k n t i))) ∧ (decide (n = 0) = false → ObsEq [] [] ∧ AV.sv (lb false) = AV.sv (lb (nodD k n t i)))) ∧
 (decide (k = 0) = false → (decide (k = 1) = true → (decide (n = 0) = true → (decide (i = 0) = true → P_c_iIsSymbol t ∧ ObsEq [] [] ∧ AV.sv (lb (isSym t)) = AV.sv (lb (nodD k n t
 i))) ∧ (decide (i = 0) = false → ObsEq [] [] ∧ AV.sv (lb false) = AV.sv (lb (nodD k n t i)))) ∧ (decide (n = 0) = false → false = false ∧ ObsEq [] [] ∧ AV.sv (lb false) = AV.sv
 (lb (nodD k n t i)))) ∧ (decide (k = 1) = false → (decide (k = 2) = true → (decide ((-999999999 : Int) ≤ n) = true → (decide (n ≤ 999999999) = true → (decide (Array.toList
 (ByteArray.data t) = []) = true → ObsEq [] [] ∧ AV.sv (lb (decide (i = 0))) = AV.sv (lb (nodD k n t i))) ∧ (decide (Array.toList (ByteArray.data t) = []) = false → ObsEq [] [] ∧
 AV.sv (lb false) = AV.sv (lb (nodD k n t i)))) ∧ (decide (n ≤ 999999999) = false → false = false ∧ ObsEq [] [] ∧ AV.sv (lb false) = AV.sv (lb (nodD k n t i)))) ∧ (decide
 ((-999999999 : Int) ≤ n) = false → false = false ∧ false = false ∧ ObsEq [] [] ∧ AV.sv (lb false) = AV.sv (lb (nodD k n t i)))) ∧ (decide (k = 2) = false → (decide (k = 3) = true
 → (decide (n = 0) = true → true = true ∧ (decide (Array.toList (ByteArray.data t) = []) = true → ObsEq [] [] ∧ AV.sv (lb (decide (i = 0))) = AV.sv (lb (nodD k n t i))) ∧ (decide
 (Array.toList (ByteArray.data t) = []) = false → ObsEq [] [] ∧ AV.sv (lb false) = AV.sv (lb (nodD k n t i)))) ∧ (decide (n = 0) = false → (decide (n = 1) = true → (decide
 (Array.toList (ByteArray.data t) = []) = true → ObsEq [] [] ∧ AV.sv (lb (decide (i = 0))) = AV.sv (lb (nodD k n t i))) ∧ (decide (Array.toList (ByteArray.data t) = []) = false →
 ObsEq [] [] ∧ AV.sv (lb false) = AV.sv (lb (nodD k n t i)))) ∧ (decide (n = 1) = false → false = false ∧ ObsEq [] [] ∧ AV.sv (lb false) = AV.sv (lb (nodD k n t i))))) ∧ (decide (k
 = 3) = false → (decide (k = 4) = true → (decide (n = 0) = true → (decide (i = 0) = true → P_c_iString t ∧ ObsEq [] [] ∧ AV.sv (lb (isStr t)) = AV.sv (lb (nodD k n t i))) ∧ (decide
 (i = 0) = false → ObsEq [] [] ∧ AV.sv (lb false) = AV.sv (lb (nodD k n t i)))) ∧ (decide (n = 0) = false → false = false ∧ ObsEq [] [] ∧ AV.sv (lb false) = AV.sv (lb (nodD k n t
 i)))) ∧ (decide (k = 4) = false → ObsEq [] [] ∧ AV.sv (lb false) = AV.sv (lb (nodD k n t i)))))))) := by kernel_rfl
theorem c_iNode (k n : Int) (t : ByteArray) (i : Int)  : P_c_iNode k n t i := by
  refine CallOK.ofRun wide (run_c_iNode k n t i) Try.call272 Try.func272 rfl rfl rfl ?_
  with_reducible repeat' (first | apply And.intro | exact flatI | exact flatS | exact rowLens | (intro; skip) | apply obsN | apply obsC | apply obA | apply obM | apply obB | apply svA | apply tupA | apply lcA | apply lcS | apply svC | apply liC | apply lbC | apply lsC | apply vIc | apply vBc | apply vSc | apply vLc | apply mapC | apply c_iIsSymbol | apply c_iString)
  all_goals (try simp only [std] at *)
  all_goals (try (first | with_reducible apply c_iIsSymbol | with_reducible apply c_iString | (simp only [← List.map_append]; first | with_reducible apply c_iIsSymbol | with_reducible apply c_iString)))
  all_goals (try (first | with_reducible rfl | omega | assumption | (refine (decide_eq_true ?_).symm; assumption) | (refine (decide_eq_false ?_).symm; assumption) | (refine rowGet ?_; (first | omega | (simp only [std]; omega) | grind)) | (refine getC ?_ rfl; (first | omega | (simp only [std]; omega) | grind)) | (refine fill_step ?_ ?_; (first | omega | (simp only [std]; omega) | grind); (first | rfl | exact (Row.eq _).trans rfl)) | (refine fill_init ?_; (first | rfl | exact (Row.eq _).trans rfl)) | (show (_ : St) = _; rfl) | grind [nodD, snocI, snocS, rowSnoc]))
mutual
def sizeD : Datum → Nat
  | ⟨_, _, _, l⟩ => sizeDs l + 1
def sizeDs : List Datum → Nat
  | [] => 0
  | c :: r => sizeD c + sizeDs r
end
theorem sizeDs_eq : ∀ l, sizeDs l = sumBy sizeD l
  | [] => by simp [sizeDs, sumBy]
  | c :: r => by rw [sizeDs, sumBy, sizeDs_eq r]
theorem sizeD_eq (c : Datum) : sizeD c = sumBy sizeD c.items + 1 := by cases c; simp only [sizeD, sizeDs_eq]
mutual
def depD : Datum → Nat
  | ⟨_, _, _, l⟩ => depDs l + 1
def depDs : List Datum → Nat
  | [] => 0
  | c :: r => max (depD c) (depDs r)
end
theorem depDs_eq : ∀ l, depDs l = maxBy depD l
  | [] => by simp [depDs, maxBy]
  | c :: r => by rw [depDs, maxBy, depDs_eq r]
theorem depD_eq (c : Datum) : depD c = maxBy depD c.items + 1 := by cases c; simp only [depD, depDs_eq]
theorem depD_le : ∀ c : Datum, depD c ≤ sizeD c := by
  refine Datum.ind fun c ih => ?_
  have := maxBy_sum ih
  rw [sizeD_eq, depD_eq]; omega
mutual
def okD : Datum → Bool
  | ⟨k, n, t, l⟩ => okDs l && nodD k n t l.length
def okDs : List Datum → Bool
  | [] => true
  | c :: r => okD c && okDs r
end
theorem okDs_eq : ∀ l, okDs l = l.all okD
  | [] => by simp [okDs]
  | c :: r => by rw [okDs, okDs_eq r]; rfl
theorem okD_eq (c : Datum) : okD c = (c.items.all okD && nodD c.kind c.number c.text c.items.length) := by cases c; simp only [okD, okDs_eq]
def isDat (d : Datum) : Bool := decide (sizeD d ≤ 600) && decide (depD d ≤ 20) && okD d
mutual
def meaD : Datum → Int → Int → Bool × Int
  | ⟨k, n, t, l⟩, deep, m => if deep ≤ 20 ∧ m + 1 ≤ 600 ∧ nodD k n t l.length = true then meaDs l (deep + 1) (m + 1) else (false, m + 1)
def meaDs : List Datum → Int → Int → Bool × Int
  | [], _, m => (true, m)
  | x :: r, deep, m => if (meaD x deep m).1 then meaDs r deep (meaD x deep m).2 else (false, (meaD x deep m).2)
end
theorem meaDs_eq : ∀ l deep m, meaDs l deep m = scan (fun x m => meaD x deep m) l m
  | [], _, _ => by simp [meaDs, scan]
  | x :: r, deep, m => by simp only [meaDs, scan, meaDs_eq r]
theorem meaD_eq (c : Datum) (deep m : Int) : meaD c deep m = if deep ≤ 20 ∧ m + 1 ≤ 600 ∧ nodD c.kind c.number c.text c.items.length = true then scan (fun x m => meaD x (deep + 1) m) c.items (m + 1) else (false, m + 1) := by cases c; simp only [meaD, meaDs_eq]
theorem meaD_of : ∀ (c : Datum) (deep m : Int), m ≤ 600 → ((meaD c deep m).1 = true ↔ (m + sizeD c ≤ 600 ∧ (deep + depD c ≤ 21 ∧ okD c = true))) ∧ ((meaD c deep m).1 = true → (meaD c deep m).2 = m + sizeD c) := by
  refine Datum.ind fun c ih deep m hm => ?_
  rw [meaD_eq, sizeD_eq, depD_eq, okD_eq, Bool.and_eq_true, List.all_eq_true]
  by_cases h : deep ≤ 20 ∧ m + 1 ≤ 600 ∧ nodD c.kind c.number c.text c.items.length = true
  · rw [if_pos h]
    have h1 := scan_of (fun x m => meaD x (deep + 1) m) sizeD (fun x => deep + 1 + depD x ≤ 21 ∧ okD x = true) 600 c.items (fun x hx m hm => ih x hx (deep + 1) m hm) (m + 1) h.2.1
    have h2 := maxBy_le depD (m := (20 - deep).toNat) (L := c.items)
    constructor
    · rw [h1.1]
      constructor
      · rintro ⟨a, b⟩
        have := h2.2 fun x hx => by have := (b x hx).1; omega
        exact ⟨by omega, by omega, fun x hx => (b x hx).2, h.2.2⟩
      · rintro ⟨a, b, d, e⟩
        have := h2.1 (by omega)
        exact ⟨by omega, fun x hx => ⟨by have := this x hx; omega, d x hx⟩⟩
    · intro ht; rw [h1.2 ht]; omega
  · rw [if_neg h]
    refine ⟨⟨fun e => Bool.noConfusion e, ?_⟩, fun e => Bool.noConfusion e⟩
    rintro ⟨a, b, d, e⟩
    exact absurd ⟨by omega, by omega, e⟩ h
theorem meaD_isDat (d : Datum) : (meaD d 1 0).1 = isDat d := by
  have h := (meaD_of d 1 0 (by decide)).1
  rw [Bool.eq_iff_iff, h]
  simp only [isDat, Bool.and_eq_true, decide_eq_true_eq, and_assoc]
  constructor
  · rintro ⟨a, b, e⟩; exact ⟨by omega, by omega, e⟩
  · rintro ⟨a, b, e⟩; exact ⟨by omega, by omega, e⟩
abbrev P_c_sFewD (d : Datum) (l : Int) : Prop := CallOK Try.prog 217 [.box [vI l]] [datumA d, .one (.ptr 0 0)] [.box [vI (max (l - sizeD d) (-1))]] (.sv (lb (decide (sizeD d ≤ l))))
def Tc_sFewD_sLa (d : Datum) (l : Int) (x0 : SV) (x1 : AC) : St := St.mk (regsOf 36 [(1, AV.sv (SV.one (AC.ptr 0 0))), (2, AV.sv (SV.one (AC.ptr 1 0))), (5, AV.sv x0)]) [Ob.box
 [x1], Ob.box (vals (datumF d))] 1 
def Lc_sFewD_sLa (d : Datum) (l : Int) (k : Nat) : St := Tc_sFewD_sLa d l (li (↑k : Int)) (vI (max (l - 1 - (↑(sumBy sizeD (List.take k (Datum.items d))) : Int)) (-1 : Int))) 
def Ic_sFewD_sLa (d : Datum) (l : Int) : Nat → St → Prop := Head (Lc_sFewD_sLa d l) (fun k => List.length (Datum.items d) ≥ k) fun k => List.length (Datum.items d) - k 
def W0c_sFewD_sLa (d : Datum) (l : Int) (x0 : AC) : St := St.mk (regsOf 36 [(1, AV.sv (SV.one (AC.ptr 0 0)))]) [Ob.box [x0]] 1 
def Yc_sFewD_sLa (d : Datum) (l : Int) : List (Prop × AEx × St) := [(True, AEx.exit 0, W0c_sFewD_sLa d l (vI (max (l - (↑(sizeD d) : Int)) (-1 : Int))))]
theorem Hc_sFewD_sLa {d : Datum} {l : Int} {k : Nat} {m : Nat} (h : (fun k => List.length (Datum.items d) ≥ k) k) (hm : (fun k => List.length (Datum.items d) - k) k = m) :
 Ic_sFewD_sLa d l m (Lc_sFewD_sLa d l k) := hm ▸ Head.mk h
theorem Ec_sFewD_sLa {d : Datum} {l : Int} {k : Nat} {x0 : SV} {x1 : AC} (h0 : x0 = (li (↑k : Int))) (h1 : x1 = (vI (max (l - 1 - (↑(sumBy sizeD (List.take k (Datum.items d))) :
 Int)) (-1 : Int)))) : Tc_sFewD_sLa d l x0 x1 = Lc_sFewD_sLa d l k := by
  rw [h0, h1]
  rfl
theorem EW0c_sFewD_sLa {d : Datum} {l : Int} {x0 y0 : AC} (h0 : x0 = y0) : W0c_sFewD_sLa d l x0 = W0c_sFewD_sLa d l y0 := by rw [h0]
theorem run_c_sFewD_sLa (d : Datum) (l : Int) (k : Nat) : aexec Try.prog (loopAt Try.f217 0) (Lc_sFewD_sLa d l k) [Orc.br [Orc.br [Orc.cells (datumF (List.getD (Datum.items d) k
 default)), Orc.call [Mode.rd, Mode.ptr] [Ob.box [vI (max (max (l - 1 - (↑(sumBy sizeD (List.take k (Datum.items d))) : Int)) (-1 : Int) - (↑(sizeD (List.getD (Datum.items d) k
 default)) : Int)) (-1 : Int))]] (AV.sv (lb (decide ((↑(sizeD (List.getD (Datum.items d) k default)) : Int) ≤ max (l - 1 - (↑(sumBy sizeD (List.take k (Datum.items d))) : Int)) (-1
 : Int))))), Orc.ghost (Ghost.sel [0, 1] [1, 2, 5]), Orc.goto (List.length (Datum.items d) - (k + 1)) (Lc_sFewD_sLa d l (k + 1))] [Orc.ghost (Ghost.sel [0] [1]), Orc.out 0]]
 [Orc.bool false, Orc.ghost (Ghost.sel [0] [1]), Orc.out 0]] (loopK (Ic_sFewD_sLa d l) (Yc_sFewD_sLa d l) (List.length (Datum.items d) - k)) = (List.length (List.map datumC
 (Datum.items d)) ≤ 9223372036854775807 → (decide ((↑k : Int) < (↑(List.length (List.map datumC (Datum.items d))) : Int)) = true → (decide (0 ≤ max (l - 1 - (↑(sumBy sizeD
 (List.take k (Datum.items d))) : Int)) (-1 : Int)) = true → (0 ≤ (↑k : Int) ∧ (List.map datumC (Datum.items d))[Int.toNat (↑k : Int)]? = some (datumF (List.getD (Datum.items d) k
 default))) ∧ P_c_sFewD (List.getD (Datum.items d) k default) (max (l - 1 - (↑(sumBy sizeD (List.take k (Datum.items d))) : Int)) (-1 : Int)) ∧ rng IntKind.i64 ((↑k : Int) + 1) ∧
 List.length (Datum.items d) - (k + 1) < List.length (Datum.items d) - k ∧ Tc_sFewD_sLa d l (li ((↑k : Int) + 1)) (vI (max (max (l - 1 - (↑(sumBy sizeD (List.take k (Datum.items
 d))) : Int)) (-1 : Int) - (↑(sizeD (List.getD (Datum.items d) k default)) : Int)) (-1 : Int))) = Lc_sFewD_sLa d l (k + 1) ∧ Ic_sFewD_sLa d l (List.length (Datum.items d) - (k +
 1)) (Lc_sFewD_sLa d l (k + 1))) ∧ (decide (0 ≤ max (l - 1 - (↑(sumBy sizeD (List.take k (Datum.items d))) : Int)) (-1 : Int)) = false → True ∧ W0c_sFewD_sLa d l (vI (max (l - 1 -
 (↑(sumBy sizeD (List.take k (Datum.items d))) : Int)) (-1 : Int))) = W0c_sFewD_sLa d l (vI (max (l - (↑(sizeD d) : Int)) (-1 : Int))))) ∧ (decide ((↑k : Int) < (↑(List.length
 (List.map datumC (Datum.items d))) : Int)) = false → false = false ∧ True ∧ W0c_sFewD_sLa d l (vI (max (l - 1 - (↑(sumBy sizeD (List.take k (Datum.items d))) : Int)) (-1 : Int)))
 = W0c_sFewD_sLa d l (vI (max (l - (↑(sizeD d) : Int)) (-1 : Int))))) := by kernel_rfl
theorem Sc_sFewD_sLa (d : Datum) (l : Int) (h : 0 ≤ l ∧ l ≤ 1000000) (ih : ∀ (z : Datum), z ∈ Datum.items d → ∀ (l : Int), 0 ≤ l ∧ l ≤ 1000000 → P_c_sFewD z l)  : LoopSem Try.prog
 (loopAt Try.f217 0) (Ic_sFewD_sLa d l) (Yc_sFewD_sLa d l) := by
  refine LoopSem.ofHead wide fun k h => ⟨_, _, run_c_sFewD_sLa d l k, ?_⟩
  have g1 := sizeD_eq d
  have g2 := sumBy_takeLe sizeD d.items k
  have g3 := @sumBy_step _ _ sizeD d.items k
  with_reducible repeat' (first | apply And.intro | exact flatI | exact flatS | exact rowLens | exact ih | (intro; skip) | apply obsN | apply obsC | apply obA | apply obM | apply obB | apply svA | apply tupA | apply lcA | apply lcS | apply svC | apply liC | apply lbC | apply lsC | apply vIc | apply vBc | apply vSc | apply vLc | apply mapC | apply Hc_sFewD_sLa | apply Ec_sFewD_sLa | apply EW0c_sFewD_sLa | apply ih)
  all_goals (try simp only [std] at *)
  all_goals (try (first | with_reducible apply ih | (simp only [← List.map_append]; first | with_reducible apply ih)))
  all_goals (try (first | with_reducible rfl | omega | assumption | (refine (decide_eq_true ?_).symm; assumption) | (refine (decide_eq_false ?_).symm; assumption) | (refine rowGet ?_; (first | omega | (simp only [std]; omega) | grind)) | (refine getC ?_ rfl; (first | omega | (simp only [std]; omega) | grind)) | (refine fill_step ?_ ?_; (first | omega | (simp only [std]; omega) | grind); (first | rfl | exact (Row.eq _).trans rfl)) | (refine fill_init ?_; (first | rfl | exact (Row.eq _).trans rfl)) | (show (_ : St) = _; rfl) | grind [getD_mem', snocI, snocS, rowSnoc]))
theorem run_c_sFewD_s (d : Datum) (l : Int) : aexec Try.prog (Option.getD (Func.body Try.f217) Code.skip) (entry [Ob.box [vI l]] [datumA d, SV.one (AC.ptr 0 0)] 36) [Orc.ghost
 (Ghost.sel [0, 1] [1, 2, 5]), Orc.loop (List.length (Datum.items d) - 0) (Lc_sFewD_sLa d l 0) (Ic_sFewD_sLa d l) [(True, AEx.exit 0, W0c_sFewD_sLa d l (vI (max (l - (↑(sizeD d) :
 Int)) (-1 : Int))), [Orc.fin []])]] (finK Try.prog [ResultVar.tmp 4] [Ob.box [vI (max (l - (↑(sizeD d) : Int)) (-1 : Int))]] (AV.sv (lb (decide ((↑(sizeD d) : Int) ≤ l))))) = (rng
 IntKind.i64 (l - 1) ∧ Tc_sFewD_sLa d l (li 0) (vI (l - 1)) = Lc_sFewD_sLa d l 0 ∧ Ic_sFewD_sLa d l (List.length (Datum.items d) - 0) (Lc_sFewD_sLa d l 0) ∧ LoopSem Try.prog
 (loopAt Try.f217 0) (Ic_sFewD_sLa d l) (Yc_sFewD_sLa d l) ∧ (True → ObsEq [Ob.box [vI (max (l - (↑(sizeD d) : Int)) (-1 : Int))]] [Ob.box [vI (max (l - (↑(sizeD d) : Int)) (-1 :
 Int))]] ∧ AV.sv (lb (decide (0 ≤ max (l - (↑(sizeD d) : Int)) (-1 : Int)))) = AV.sv (lb (decide ((↑(sizeD d) : Int) ≤ l)))) ∧ True) := by kernel_rfl
theorem c_sFewD_s (d : Datum) (l : Int) (h : 0 ≤ l ∧ l ≤ 1000000) (ih : ∀ z ∈ d.items, ∀ (l : Int) (h : 0 ≤ l ∧ l ≤ 1000000), P_c_sFewD z l)  : P_c_sFewD d l := by
  refine CallOK.ofRun wide (run_c_sFewD_s d l) Try.call217 Try.func217 rfl rfl rfl ?_
  have g1 := sizeD_eq d
  have g2 : sumBy sizeD (d.items.take 0) = 0 := rfl
  with_reducible repeat' (first | apply And.intro | exact flatI | exact flatS | exact rowLens | exact ih | (intro; skip) | apply obsN | apply obsC | apply obA | apply obM | apply obB | apply svA | apply tupA | apply lcA | apply lcS | apply svC | apply liC | apply lbC | apply lsC | apply vIc | apply vBc | apply vSc | apply vLc | apply mapC | apply Hc_sFewD_sLa | apply Ec_sFewD_sLa | apply Sc_sFewD_sLa | apply EW0c_sFewD_sLa)
  all_goals (try simp only [std] at *)
  all_goals (try (first | with_reducible apply ih | (simp only [← List.map_append]; first | with_reducible apply ih)))
  all_goals (try (first | with_reducible rfl | omega | assumption | (refine (decide_eq_true ?_).symm; assumption) | (refine (decide_eq_false ?_).symm; assumption) | (refine rowGet ?_; (first | omega | (simp only [std]; omega) | grind)) | (refine getC ?_ rfl; (first | omega | (simp only [std]; omega) | grind)) | (refine fill_step ?_ ?_; (first | omega | (simp only [std]; omega) | grind); (first | rfl | exact (Row.eq _).trans rfl)) | (refine fill_init ?_; (first | rfl | exact (Row.eq _).trans rfl)) | (show (_ : St) = _; rfl) | grind [snocI, snocS, rowSnoc]))
theorem c_sFewD (d : Datum) : ∀ (l : Int) (h : 0 ≤ l ∧ l ≤ 1000000), P_c_sFewD d l := Datum.ind (P := fun d => ∀ (l : Int) (h : 0 ≤ l ∧ l ≤ 1000000), P_c_sFewD d l) (fun d ih l h => c_sFewD_s d l h ih) d
abbrev P_c_sDepD (d : Datum) : Prop := CallOK Try.prog 218 [] [datumA d] [] (.sv (li (depD d)))
def Tc_sDepD_sLa (d : Datum) (x0 : SV) (x1 : SV) : St := St.mk (regsOf 20 [(3, AV.sv x1), (7, AV.sv (ll (List.map datumC (Datum.items d)))), (8, AV.sv (li (↑(List.length (List.map
 datumC (Datum.items d))) : Int))), (9, AV.sv x0)]) [] 0 
def Lc_sDepD_sLa (d : Datum) (k : Nat) : St := Tc_sDepD_sLa d (li (↑k : Int)) (li (↑(maxBy depD (List.take k (Datum.items d))) : Int)) 
def Ic_sDepD_sLa (d : Datum) : Nat → St → Prop := Head (Lc_sDepD_sLa d) (fun k => k ≤ List.length (Datum.items d) ∧ List.length (Datum.items d) ≤ 9223372036854775807) fun k =>
 List.length (Datum.items d) - k 
def W0c_sDepD_sLa (d : Datum) (x0 : SV) : St := St.mk (regsOf 20 [(3, AV.sv x0)]) [] 0 
def Yc_sDepD_sLa (d : Datum) : List (Prop × AEx × St) := [(True, AEx.exit 0, W0c_sDepD_sLa d (li (↑(maxBy depD (Datum.items d)) : Int)))]
theorem Hc_sDepD_sLa {d : Datum} {k : Nat} {m : Nat} (h : (fun k => k ≤ List.length (Datum.items d) ∧ List.length (Datum.items d) ≤ 9223372036854775807) k) (hm : (fun k =>
 List.length (Datum.items d) - k) k = m) : Ic_sDepD_sLa d m (Lc_sDepD_sLa d k) := hm ▸ Head.mk h
theorem Ec_sDepD_sLa {d : Datum} {k : Nat} {x0 : SV} {x1 : SV} (h0 : x0 = (li (↑k : Int))) (h1 : x1 = (li (↑(maxBy depD (List.take k (Datum.items d))) : Int))) : Tc_sDepD_sLa d x0
 x1 = Lc_sDepD_sLa d k := by
  rw [h0, h1]
  rfl
theorem EW0c_sDepD_sLa {d : Datum} {x0 y0 : SV} (h0 : x0 = y0) : W0c_sDepD_sLa d x0 = W0c_sDepD_sLa d y0 := by rw [h0]
theorem run_c_sDepD_sLa (d : Datum) (k : Nat) : aexec Try.prog (loopAt Try.f218 0) (Lc_sDepD_sLa d k) [Orc.br [Orc.cells (datumF (List.getD (Datum.items d) k default)), Orc.call
 [Mode.rd] [] (AV.sv (li (↑(depD (List.getD (Datum.items d) k default)) : Int))), Orc.ghost (Ghost.sel [] [3, 7, 8, 9]), Orc.goto (List.length (Datum.items d) - (k + 1))
 (Lc_sDepD_sLa d (k + 1))] [Orc.ghost (Ghost.sel [] [3]), Orc.out 0]] (loopK (Ic_sDepD_sLa d) (Yc_sDepD_sLa d) (List.length (Datum.items d) - k)) = ((decide ((↑k : Int) <
 (↑(List.length (List.map datumC (Datum.items d))) : Int)) = true → (0 ≤ (↑k : Int) ∧ (List.map datumC (Datum.items d))[Int.toNat (↑k : Int)]? = some (datumF (List.getD
 (Datum.items d) k default))) ∧ P_c_sDepD (List.getD (Datum.items d) k default) ∧ rng IntKind.i64 ((↑k : Int) + 1) ∧ List.length (Datum.items d) - (k + 1) < List.length
 (Datum.items d) - k ∧ Tc_sDepD_sLa d (li ((↑k : Int) + 1)) (li (max (↑(maxBy depD (List.take k (Datum.items d))) : Int) (↑(depD (List.getD (Datum.items d) k default)) : Int))) =
 Lc_sDepD_sLa d (k + 1) ∧ Ic_sDepD_sLa d (List.length (Datum.items d) - (k + 1)) (Lc_sDepD_sLa d (k + 1))) ∧ (decide ((↑k : Int) < (↑(List.length (List.map datumC (Datum.items d)))
 : Int)) = false → True ∧ W0c_sDepD_sLa d (li (↑(maxBy depD (List.take k (Datum.items d))) : Int)) = W0c_sDepD_sLa d (li (↑(maxBy depD (Datum.items d)) : Int)))) := by kernel_rfl
theorem Sc_sDepD_sLa (d : Datum) (h : sizeD d ≤ 2147483647) (ih : ∀ (z : Datum), z ∈ Datum.items d → sizeD z ≤ 2147483647 → P_c_sDepD z)  : LoopSem Try.prog (loopAt Try.f218 0)
 (Ic_sDepD_sLa d) (Yc_sDepD_sLa d) := by
  refine LoopSem.ofHead wide fun k h => ⟨_, _, run_c_sDepD_sLa d k, ?_⟩
  have g1 := sizeD_eq d
  have g2 := @sumBy_mem _ sizeD d.items (d.items.getD k default)
  with_reducible repeat' (first | apply And.intro | exact flatI | exact flatS | exact rowLens | exact ih | (intro; skip) | apply obsN | apply obsC | apply obA | apply obM | apply obB | apply svA | apply tupA | apply lcA | apply lcS | apply svC | apply liC | apply lbC | apply lsC | apply vIc | apply vBc | apply vSc | apply vLc | apply mapC | apply Hc_sDepD_sLa | apply Ec_sDepD_sLa | apply EW0c_sDepD_sLa | apply ih)
  all_goals (try simp only [std] at *)
  all_goals (try (first | with_reducible apply ih | (simp only [← List.map_append]; first | with_reducible apply ih)))
  all_goals (try (first | with_reducible rfl | omega | assumption | (refine (decide_eq_true ?_).symm; assumption) | (refine (decide_eq_false ?_).symm; assumption) | (refine rowGet ?_; (first | omega | (simp only [std]; omega) | grind)) | (refine getC ?_ rfl; (first | omega | (simp only [std]; omega) | grind)) | (refine fill_step ?_ ?_; (first | omega | (simp only [std]; omega) | grind); (first | rfl | exact (Row.eq _).trans rfl)) | (refine fill_init ?_; (first | rfl | exact (Row.eq _).trans rfl)) | (show (_ : St) = _; rfl) | grind [maxBy_step, getD_mem', snocI, snocS, rowSnoc]))
theorem run_c_sDepD_s (d : Datum) : aexec Try.prog (Option.getD (Func.body Try.f218) Code.skip) (entry [] [datumA d] 20) [Orc.ghost (Ghost.sel [] [3, 7, 8, 9]), Orc.loop
 (List.length (Datum.items d) - 0) (Lc_sDepD_sLa d 0) (Ic_sDepD_sLa d) [(True, AEx.exit 0, W0c_sDepD_sLa d (li (↑(maxBy depD (Datum.items d)) : Int)), [Orc.fin []])]] (finK
 Try.prog [ResultVar.tmp 2] [] (AV.sv (li (↑(depD d) : Int)))) = (List.length (List.map datumC (Datum.items d)) ≤ 9223372036854775807 → Tc_sDepD_sLa d (li 0) (li 0) = Lc_sDepD_sLa
 d 0 ∧ Ic_sDepD_sLa d (List.length (Datum.items d) - 0) (Lc_sDepD_sLa d 0) ∧ LoopSem Try.prog (loopAt Try.f218 0) (Ic_sDepD_sLa d) (Yc_sDepD_sLa d) ∧ (True → rng IntKind.i64
 ((↑(maxBy depD (Datum.items d)) : Int) + 1) ∧ ObsEq [] [] ∧ AV.sv (li ((↑(maxBy depD (Datum.items d)) : Int) + 1)) = AV.sv (li (↑(depD d) : Int))) ∧ True) := by kernel_rfl
theorem c_sDepD_s (d : Datum) (h : sizeD d ≤ 2147483647) (ih : ∀ z ∈ d.items, ∀ (h : sizeD z ≤ 2147483647), P_c_sDepD z)  : P_c_sDepD d := by
  refine CallOK.ofRun wide (run_c_sDepD_s d) Try.call218 Try.func218 rfl rfl rfl ?_
  have h1 := depD_le d
  have g2 : maxBy depD (d.items.take 0) = 0 := rfl
  with_reducible repeat' (first | apply And.intro | exact flatI | exact flatS | exact rowLens | exact ih | (intro; skip) | apply obsN | apply obsC | apply obA | apply obM | apply obB | apply svA | apply tupA | apply lcA | apply lcS | apply svC | apply liC | apply lbC | apply lsC | apply vIc | apply vBc | apply vSc | apply vLc | apply mapC | apply Hc_sDepD_sLa | apply Ec_sDepD_sLa | apply Sc_sDepD_sLa | apply EW0c_sDepD_sLa)
  all_goals (try simp only [std] at *)
  all_goals (try (first | with_reducible apply ih | (simp only [← List.map_append]; first | with_reducible apply ih)))
  all_goals (try (first | with_reducible rfl | omega | assumption | (refine (decide_eq_true ?_).symm; assumption) | (refine (decide_eq_false ?_).symm; assumption) | (refine rowGet ?_; (first | omega | (simp only [std]; omega) | grind)) | (refine getC ?_ rfl; (first | omega | (simp only [std]; omega) | grind)) | (refine fill_step ?_ ?_; (first | omega | (simp only [std]; omega) | grind); (first | rfl | exact (Row.eq _).trans rfl)) | (refine fill_init ?_; (first | rfl | exact (Row.eq _).trans rfl)) | (show (_ : St) = _; rfl) | grind [depD_eq, snocI, snocS, rowSnoc]))
theorem c_sDepD (d : Datum) : ∀ (h : sizeD d ≤ 2147483647), P_c_sDepD d := Datum.ind (P := fun d => ∀ (h : sizeD d ≤ 2147483647), P_c_sDepD d) (fun d ih h => c_sDepD_s d h ih) d
abbrev P_c_sOkD (d : Datum) : Prop := CallOK Try.prog 219 [] [datumA d] [] (.sv (lb (okD d)))
def Tc_sOkD_sLa (d : Datum) (x0 : SV) : St := St.mk (regsOf 26 [(1, AV.sv (SV.one (AC.ptr 0 0))), (6, AV.sv (ll (List.map datumC (Datum.items d)))), (7, AV.sv (li (↑(List.length
 (List.map datumC (Datum.items d))) : Int))), (8, AV.sv x0)]) [Ob.box (vals (datumF d))] 0 
def Lc_sOkD_sLa (d : Datum) (k : Nat) : St := Tc_sOkD_sLa d (li (↑k : Int)) 
def Ic_sOkD_sLa (d : Datum) : Nat → St → Prop := Head (Lc_sOkD_sLa d) (fun k => k ≤ List.length (Datum.items d) ∧ List.length (Datum.items d) ≤ 9223372036854775807 ∧ List.all
 (List.take k (Datum.items d)) okD = true) fun k => List.length (Datum.items d) - k 
def W0c_sOkD_sLa (d : Datum) : St := St.mk (regsOf 26 [(1, AV.sv (SV.one (AC.ptr 0 0)))]) [Ob.box (vals (datumF d))] 0 
def W1c_sOkD_sLa (d : Datum) (x0 : SV) : St := St.mk (regsOf 26 [(2, AV.sv x0)]) [] 0 
def Yc_sOkD_sLa (d : Datum) : List (Prop × AEx × St) := [(List.all (Datum.items d) okD = true, AEx.exit 0, W0c_sOkD_sLa d), (List.all (Datum.items d) okD = false, AEx.ret,
 W1c_sOkD_sLa d (lb false))]
theorem Hc_sOkD_sLa {d : Datum} {k : Nat} {m : Nat} (h : (fun k => k ≤ List.length (Datum.items d) ∧ List.length (Datum.items d) ≤ 9223372036854775807 ∧ List.all (List.take k
 (Datum.items d)) okD = true) k) (hm : (fun k => List.length (Datum.items d) - k) k = m) : Ic_sOkD_sLa d m (Lc_sOkD_sLa d k) := hm ▸ Head.mk h
theorem Ec_sOkD_sLa {d : Datum} {k : Nat} {x0 : SV} (h0 : x0 = (li (↑k : Int))) : Tc_sOkD_sLa d x0 = Lc_sOkD_sLa d k := by
  rw [h0]
  rfl
theorem EW1c_sOkD_sLa {d : Datum} {x0 y0 : SV} (h0 : x0 = y0) : W1c_sOkD_sLa d x0 = W1c_sOkD_sLa d y0 := by rw [h0]
theorem run_c_sOkD_sLa (d : Datum) (k : Nat) : aexec Try.prog (loopAt Try.f219 0) (Lc_sOkD_sLa d k) [Orc.br [Orc.cells (datumF (List.getD (Datum.items d) k default)), Orc.call
 [Mode.rd] [] (AV.sv (lb (okD (List.getD (Datum.items d) k default)))), Orc.br [Orc.ghost (Ghost.sel [] [2]), Orc.out 1] [Orc.ghost (Ghost.sel [0] [1, 6, 7, 8]), Orc.goto
 (List.length (Datum.items d) - (k + 1)) (Lc_sOkD_sLa d (k + 1))]] [Orc.ghost (Ghost.sel [0] [1]), Orc.out 0]] (loopK (Ic_sOkD_sLa d) (Yc_sOkD_sLa d) (List.length (Datum.items d) -
 k)) = ((decide ((↑k : Int) < (↑(List.length (List.map datumC (Datum.items d))) : Int)) = true → (0 ≤ (↑k : Int) ∧ (List.map datumC (Datum.items d))[Int.toNat (↑k : Int)]? = some
 (datumF (List.getD (Datum.items d) k default))) ∧ P_c_sOkD (List.getD (Datum.items d) k default) ∧ ((!okD (List.getD (Datum.items d) k default)) = true → List.all (Datum.items d)
 okD = false ∧ W1c_sOkD_sLa d (lb false) = W1c_sOkD_sLa d (lb false)) ∧ ((!okD (List.getD (Datum.items d) k default)) = false → rng IntKind.i64 ((↑k : Int) + 1) ∧ List.length
 (Datum.items d) - (k + 1) < List.length (Datum.items d) - k ∧ Tc_sOkD_sLa d (li ((↑k : Int) + 1)) = Lc_sOkD_sLa d (k + 1) ∧ Ic_sOkD_sLa d (List.length (Datum.items d) - (k + 1))
 (Lc_sOkD_sLa d (k + 1)))) ∧ (decide ((↑k : Int) < (↑(List.length (List.map datumC (Datum.items d))) : Int)) = false → List.all (Datum.items d) okD = true ∧ W0c_sOkD_sLa d =
 W0c_sOkD_sLa d)) := by kernel_rfl
theorem Sc_sOkD_sLa (d : Datum) (ih : ∀ (z : Datum), z ∈ Datum.items d → P_c_sOkD z)  : LoopSem Try.prog (loopAt Try.f219 0) (Ic_sOkD_sLa d) (Yc_sOkD_sLa d) := by
  refine LoopSem.ofHead wide fun k h => ⟨_, _, run_c_sOkD_sLa d k, ?_⟩
  with_reducible repeat' (first | apply And.intro | exact flatI | exact flatS | exact rowLens | exact ih | (intro; skip) | apply obsN | apply obsC | apply obA | apply obM | apply obB | apply svA | apply tupA | apply lcA | apply lcS | apply svC | apply liC | apply lbC | apply lsC | apply vIc | apply vBc | apply vSc | apply vLc | apply mapC | apply Hc_sOkD_sLa | apply Ec_sOkD_sLa | apply EW1c_sOkD_sLa | apply c_sNode | apply ih)
  all_goals (try simp only [std] at *)
  all_goals (try (first | with_reducible apply c_sNode | with_reducible apply ih | (simp only [← List.map_append]; first | with_reducible apply c_sNode | with_reducible apply ih)))
  all_goals (try (first | with_reducible rfl | omega | assumption | (refine (decide_eq_true ?_).symm; assumption) | (refine (decide_eq_false ?_).symm; assumption) | (refine rowGet ?_; (first | omega | (simp only [std]; omega) | grind)) | (refine getC ?_ rfl; (first | omega | (simp only [std]; omega) | grind)) | (refine fill_step ?_ ?_; (first | omega | (simp only [std]; omega) | grind); (first | rfl | exact (Row.eq _).trans rfl)) | (refine fill_init ?_; (first | rfl | exact (Row.eq _).trans rfl)) | (show (_ : St) = _; rfl) | grind [take_get, getD_mem', snocI, snocS, rowSnoc]))
theorem run_c_sOkD_s (d : Datum) : aexec Try.prog (Option.getD (Func.body Try.f219) Code.skip) (entry [] [datumA d] 26) [Orc.ghost (Ghost.sel [0] [1, 6, 7, 8]), Orc.loop
 (List.length (Datum.items d) - 0) (Lc_sOkD_sLa d 0) (Ic_sOkD_sLa d) [(List.all (Datum.items d) okD = true, AEx.exit 0, W0c_sOkD_sLa d, [Orc.call [Mode.rd, Mode.rd, Mode.rd,
 Mode.rd] [] (AV.sv (lb (nodD (Datum.kind d) (Datum.number d) (Datum.text d) (↑(List.length (List.map datumC (Datum.items d))) : Int)))), Orc.fin []]), (List.all (Datum.items d)
 okD = false, AEx.ret, W1c_sOkD_sLa d (lb false), [Orc.fin []])]] (finK Try.prog [ResultVar.tmp 2] [] (AV.sv (lb (okD d)))) = (List.length (List.map datumC (Datum.items d)) ≤
 9223372036854775807 → Tc_sOkD_sLa d (li 0) = Lc_sOkD_sLa d 0 ∧ Ic_sOkD_sLa d (List.length (Datum.items d) - 0) (Lc_sOkD_sLa d 0) ∧ LoopSem Try.prog (loopAt Try.f219 0)
 (Ic_sOkD_sLa d) (Yc_sOkD_sLa d) ∧ (List.all (Datum.items d) okD = true → List.length (List.map datumC (Datum.items d)) ≤ 9223372036854775807 → P_c_sNode (Datum.kind d)
 (Datum.number d) (Datum.text d) (↑(List.length (List.map datumC (Datum.items d))) : Int) ∧ ObsEq [] [] ∧ AV.sv (lb (nodD (Datum.kind d) (Datum.number d) (Datum.text d)
 (↑(List.length (List.map datumC (Datum.items d))) : Int))) = AV.sv (lb (okD d))) ∧ (List.all (Datum.items d) okD = false → ObsEq [] [] ∧ AV.sv (lb false) = AV.sv (lb (okD d))) ∧
 True) := by kernel_rfl
theorem c_sOkD_s (d : Datum) (ih : ∀ z ∈ d.items, P_c_sOkD z)  : P_c_sOkD d := by
  refine CallOK.ofRun wide (run_c_sOkD_s d) Try.call219 Try.func219 rfl rfl rfl ?_
  with_reducible repeat' (first | apply And.intro | exact flatI | exact flatS | exact rowLens | exact ih | (intro; skip) | apply obsN | apply obsC | apply obA | apply obM | apply obB | apply svA | apply tupA | apply lcA | apply lcS | apply svC | apply liC | apply lbC | apply lsC | apply vIc | apply vBc | apply vSc | apply vLc | apply mapC | apply Hc_sOkD_sLa | apply Ec_sOkD_sLa | apply Sc_sOkD_sLa | apply EW1c_sOkD_sLa | apply c_sNode)
  all_goals (try simp only [std] at *)
  all_goals (try (first | with_reducible apply c_sNode | with_reducible apply ih | (simp only [← List.map_append]; first | with_reducible apply c_sNode | with_reducible apply ih)))
  all_goals (try (first | with_reducible rfl | omega | assumption | (refine (decide_eq_true ?_).symm; assumption) | (refine (decide_eq_false ?_).symm; assumption) | (refine rowGet ?_; (first | omega | (simp only [std]; omega) | grind)) | (refine getC ?_ rfl; (first | omega | (simp only [std]; omega) | grind)) | (refine fill_step ?_ ?_; (first | omega | (simp only [std]; omega) | grind); (first | rfl | exact (Row.eq _).trans rfl)) | (refine fill_init ?_; (first | rfl | exact (Row.eq _).trans rfl)) | (show (_ : St) = _; rfl) | grind [okD_eq, snocI, snocS, rowSnoc]))
theorem c_sOkD (d : Datum) : P_c_sOkD d := Datum.ind (P := fun d => P_c_sOkD d) (fun d ih => c_sOkD_s d ih) d
abbrev P_c_sIsDatum (d : Datum) : Prop := CallOK Try.prog 122 [] [datumA d] [] (.sv (lb (isDat d)))
theorem run_c_sIsDatum (d : Datum) : aexec Try.prog (Option.getD (Func.body Try.f122) Code.skip) (entry [] [datumA d] 15) [Orc.call [Mode.rd, Mode.ptr] [Ob.box [vI (max (600 -
 (↑(sizeD d) : Int)) (-1 : Int))]] (AV.sv (lb (decide ((↑(sizeD d) : Int) ≤ 600)))), Orc.br [Orc.call [Mode.rd] [] (AV.sv (li (↑(depD d) : Int))), Orc.br [Orc.call [Mode.rd] []
 (AV.sv (lb (okD d))), Orc.fin []] [Orc.fin []]] [Orc.bool false, Orc.fin []]] (finK Try.prog [ResultVar.tmp 2] [] (AV.sv (lb (isDat d)))) = (P_c_sFewD d 600 ∧ (decide ((↑(sizeD d)
 : Int) ≤ 600) = true → P_c_sDepD d ∧ (decide ((↑(depD d) : Int) ≤ 20) = true → P_c_sOkD d ∧ ObsEq [] [] ∧ AV.sv (lb (okD d)) = AV.sv (lb (isDat d))) ∧ (decide ((↑(depD d) : Int) ≤
 20) = false → ObsEq [] [] ∧ AV.sv (lb false) = AV.sv (lb (isDat d)))) ∧ (decide ((↑(sizeD d) : Int) ≤ 600) = false → false = false ∧ ObsEq [] [] ∧ AV.sv (lb false) = AV.sv (lb
 (isDat d)))) := by kernel_rfl
theorem c_sIsDatum (d : Datum)  : P_c_sIsDatum d := by
  refine CallOK.ofRun wide (run_c_sIsDatum d) Try.call122 Try.func122 rfl rfl rfl ?_
  with_reducible repeat' (first | apply And.intro | exact flatI | exact flatS | exact rowLens | (intro; skip) | apply obsN | apply obsC | apply obA | apply obM | apply obB | apply svA | apply tupA | apply lcA | apply lcS | apply svC | apply liC | apply lbC | apply lsC | apply vIc | apply vBc | apply vSc | apply vLc | apply mapC | apply c_sFewD | apply c_sDepD | apply c_sOkD)
  all_goals (try simp only [std] at *)
  all_goals (try (first | with_reducible apply c_sFewD | with_reducible apply c_sDepD | with_reducible apply c_sOkD | (simp only [← List.map_append]; first | with_reducible apply c_sFewD | with_reducible apply c_sDepD | with_reducible apply c_sOkD)))
  all_goals (try (first | with_reducible rfl | omega | assumption | (refine (decide_eq_true ?_).symm; assumption) | (refine (decide_eq_false ?_).symm; assumption) | (refine rowGet ?_; (first | omega | (simp only [std]; omega) | grind)) | (refine getC ?_ rfl; (first | omega | (simp only [std]; omega) | grind)) | (refine fill_step ?_ ?_; (first | omega | (simp only [std]; omega) | grind); (first | rfl | exact (Row.eq _).trans rfl)) | (refine fill_init ?_; (first | rfl | exact (Row.eq _).trans rfl)) | (show (_ : St) = _; rfl) | grind [isDat, snocI, snocS, rowSnoc]))
abbrev P_c_iMeaD (d : Datum) (deep : Int) (q : Int) : Prop := CallOK Try.prog 224 [.box [vI q]] [datumA d, li deep, .one (.ptr 0 0)] [.box [vI (meaD d deep q).2]] (.sv (lb (meaD d deep q).1))
def Tc_iMeaD_sLa (d : Datum) (deep : Int) (q : Int) (x0 : SV) (x1 : AC) : St := St.mk (regsOf 49 [(1, AV.sv (li deep)), (2, AV.sv (SV.one (AC.ptr 0 0))), (36, AV.sv (ll (List.map
 datumC (Datum.items d)))), (37, AV.sv (li (↑(List.length (List.map datumC (Datum.items d))) : Int))), (38, AV.sv x0)]) [Ob.box [x1]] 1 
def Lc_iMeaD_sLa (d : Datum) (deep : Int) (q : Int) (k : Nat) : St := Tc_iMeaD_sLa d deep q (li (↑k : Int)) (vI (Prod.snd (scan (fun x m => meaD x (deep + 1) m) (List.take k
 (Datum.items d)) (q + 1)))) 
def Ic_iMeaD_sLa (d : Datum) (deep : Int) (q : Int) : Nat → St → Prop := Head (Lc_iMeaD_sLa d deep q) (fun k => k ≤ List.length (Datum.items d) ∧ List.length (Datum.items d) ≤
 9223372036854775807 ∧ deep ≤ 20 ∧ Prod.fst (scan (fun x m => meaD x (deep + 1) m) (List.take k (Datum.items d)) (q + 1)) = true ∧ q ≤ Prod.snd (scan (fun x m => meaD x (deep + 1)
 m) (List.take k (Datum.items d)) (q + 1)) ∧ Prod.snd (scan (fun x m => meaD x (deep + 1) m) (List.take k (Datum.items d)) (q + 1)) ≤ 600) fun k => List.length (Datum.items d) - k 
def W0c_iMeaD_sLa (d : Datum) (deep : Int) (q : Int) (x0 : AC) : St := St.mk (regsOf 49 []) [Ob.box [x0]] 1 
def W1c_iMeaD_sLa (d : Datum) (deep : Int) (q : Int) (x0 : SV) (x1 : AC) : St := St.mk (regsOf 49 [(6, AV.sv x0)]) [Ob.box [x1]] 1 
def Yc_iMeaD_sLa (d : Datum) (deep : Int) (q : Int) : List (Prop × AEx × St) := [(Prod.fst (scan (fun x m => meaD x (deep + 1) m) (Datum.items d) (q + 1)) = true, AEx.exit 0,
 W0c_iMeaD_sLa d deep q (vI (Prod.snd (scan (fun x m => meaD x (deep + 1) m) (Datum.items d) (q + 1))))), (Prod.fst (scan (fun x m => meaD x (deep + 1) m) (Datum.items d) (q + 1))
 = false, AEx.ret, W1c_iMeaD_sLa d deep q (lb false) (vI (Prod.snd (scan (fun x m => meaD x (deep + 1) m) (Datum.items d) (q + 1)))))]
theorem Hc_iMeaD_sLa {d : Datum} {deep : Int} {q : Int} {k : Nat} {m : Nat} (h : (fun k => k ≤ List.length (Datum.items d) ∧ List.length (Datum.items d) ≤ 9223372036854775807 ∧
 deep ≤ 20 ∧ Prod.fst (scan (fun x m => meaD x (deep + 1) m) (List.take k (Datum.items d)) (q + 1)) = true ∧ q ≤ Prod.snd (scan (fun x m => meaD x (deep + 1) m) (List.take k
 (Datum.items d)) (q + 1)) ∧ Prod.snd (scan (fun x m => meaD x (deep + 1) m) (List.take k (Datum.items d)) (q + 1)) ≤ 600) k) (hm : (fun k => List.length (Datum.items d) - k) k =
 m) : Ic_iMeaD_sLa d deep q m (Lc_iMeaD_sLa d deep q k) := hm ▸ Head.mk h
theorem Ec_iMeaD_sLa {d : Datum} {deep : Int} {q : Int} {k : Nat} {x0 : SV} {x1 : AC} (h0 : x0 = (li (↑k : Int))) (h1 : x1 = (vI (Prod.snd (scan (fun x m => meaD x (deep + 1) m)
 (List.take k (Datum.items d)) (q + 1))))) : Tc_iMeaD_sLa d deep q x0 x1 = Lc_iMeaD_sLa d deep q k := by
  rw [h0, h1]
  rfl
theorem EW0c_iMeaD_sLa {d : Datum} {deep : Int} {q : Int} {x0 y0 : AC} (h0 : x0 = y0) : W0c_iMeaD_sLa d deep q x0 = W0c_iMeaD_sLa d deep q y0 := by rw [h0]
theorem EW1c_iMeaD_sLa {d : Datum} {deep : Int} {q : Int} {x0 y0 : SV} {x1 y1 : AC} (h0 : x0 = y0) (h1 : x1 = y1) : W1c_iMeaD_sLa d deep q x0 x1 = W1c_iMeaD_sLa d deep q y0 y1 :=
 by rw [h0, h1]
theorem run_c_iMeaD_sLa (d : Datum) (deep : Int) (q : Int) (k : Nat) : aexec Try.prog (loopAt Try.f224 0) (Lc_iMeaD_sLa d deep q k) [Orc.br [Orc.cells (datumF (List.getD
 (Datum.items d) k default)), Orc.call [Mode.rd, Mode.rd, Mode.ptr] [Ob.box [vI (Prod.snd (meaD (List.getD (Datum.items d) k default) (deep + 1) (Prod.snd (scan (fun x m => meaD x
 (deep + 1) m) (List.take k (Datum.items d)) (q + 1)))))]] (AV.sv (lb (Prod.fst (meaD (List.getD (Datum.items d) k default) (deep + 1) (Prod.snd (scan (fun x m => meaD x (deep + 1)
 m) (List.take k (Datum.items d)) (q + 1))))))), Orc.br [Orc.ghost (Ghost.sel [0] [6]), Orc.out 1] [Orc.ghost (Ghost.sel [0] [1, 2, 36, 37, 38]), Orc.goto (List.length (Datum.items
 d) - (k + 1)) (Lc_iMeaD_sLa d deep q (k + 1))]] [Orc.ghost (Ghost.sel [0] []), Orc.out 0]] (loopK (Ic_iMeaD_sLa d deep q) (Yc_iMeaD_sLa d deep q) (List.length (Datum.items d) -
 k)) = ((decide ((↑k : Int) < (↑(List.length (List.map datumC (Datum.items d))) : Int)) = true → (0 ≤ (↑k : Int) ∧ (List.map datumC (Datum.items d))[Int.toNat (↑k : Int)]? = some
 (datumF (List.getD (Datum.items d) k default))) ∧ rng IntKind.i64 (deep + 1) ∧ P_c_iMeaD (List.getD (Datum.items d) k default) (deep + 1) (Prod.snd (scan (fun x m => meaD x (deep
 + 1) m) (List.take k (Datum.items d)) (q + 1))) ∧ ((!Prod.fst (meaD (List.getD (Datum.items d) k default) (deep + 1) (Prod.snd (scan (fun x m => meaD x (deep + 1) m) (List.take k
 (Datum.items d)) (q + 1))))) = true → Prod.fst (scan (fun x m => meaD x (deep + 1) m) (Datum.items d) (q + 1)) = false ∧ W1c_iMeaD_sLa d deep q (lb false) (vI (Prod.snd (meaD
 (List.getD (Datum.items d) k default) (deep + 1) (Prod.snd (scan (fun x m => meaD x (deep + 1) m) (List.take k (Datum.items d)) (q + 1)))))) = W1c_iMeaD_sLa d deep q (lb false)
 (vI (Prod.snd (scan (fun x m => meaD x (deep + 1) m) (Datum.items d) (q + 1))))) ∧ ((!Prod.fst (meaD (List.getD (Datum.items d) k default) (deep + 1) (Prod.snd (scan (fun x m =>
 meaD x (deep + 1) m) (List.take k (Datum.items d)) (q + 1))))) = false → rng IntKind.i64 ((↑k : Int) + 1) ∧ List.length (Datum.items d) - (k + 1) < List.length (Datum.items d) - k
 ∧ Tc_iMeaD_sLa d deep q (li ((↑k : Int) + 1)) (vI (Prod.snd (meaD (List.getD (Datum.items d) k default) (deep + 1) (Prod.snd (scan (fun x m => meaD x (deep + 1) m) (List.take k
 (Datum.items d)) (q + 1)))))) = Lc_iMeaD_sLa d deep q (k + 1) ∧ Ic_iMeaD_sLa d deep q (List.length (Datum.items d) - (k + 1)) (Lc_iMeaD_sLa d deep q (k + 1)))) ∧ (decide ((↑k :
 Int) < (↑(List.length (List.map datumC (Datum.items d))) : Int)) = false → Prod.fst (scan (fun x m => meaD x (deep + 1) m) (Datum.items d) (q + 1)) = true ∧ W0c_iMeaD_sLa d deep q
 (vI (Prod.snd (scan (fun x m => meaD x (deep + 1) m) (List.take k (Datum.items d)) (q + 1)))) = W0c_iMeaD_sLa d deep q (vI (Prod.snd (scan (fun x m => meaD x (deep + 1) m)
 (Datum.items d) (q + 1)))))) := by kernel_rfl
theorem Sc_iMeaD_sLa (d : Datum) (deep : Int) (q : Int) (h : 0 ≤ deep ∧ deep ≤ 21 ∧ 0 ≤ q ∧ q ≤ 600) (ih : ∀ (z : Datum), z ∈ Datum.items d → ∀ (deep q : Int), 0 ≤ deep ∧ deep ≤ 21
 ∧ 0 ≤ q ∧ q ≤ 600 → P_c_iMeaD z deep q)  : LoopSem Try.prog (loopAt Try.f224 0) (Ic_iMeaD_sLa d deep q) (Yc_iMeaD_sLa d deep q) := by
  refine LoopSem.ofHead wide fun k h => ⟨_, _, run_c_iMeaD_sLa d deep q k, ?_⟩
  have g1 := fun x m => meaD_of x (deep + 1) m
  with_reducible repeat' (first | apply And.intro | exact flatI | exact flatS | exact rowLens | exact ih | (intro; skip) | apply obsN | apply obsC | apply obA | apply obM | apply obB | apply svA | apply tupA | apply lcA | apply lcS | apply svC | apply liC | apply lbC | apply lsC | apply vIc | apply vBc | apply vSc | apply vLc | apply mapC | apply Hc_iMeaD_sLa | apply Ec_iMeaD_sLa | apply EW0c_iMeaD_sLa | apply EW1c_iMeaD_sLa | apply c_iNode | apply ih)
  all_goals (try simp only [std] at *)
  all_goals (try (first | with_reducible apply c_iNode | with_reducible apply ih | (simp only [← List.map_append]; first | with_reducible apply c_iNode | with_reducible apply ih)))
  all_goals (try (first | with_reducible rfl | omega | assumption | (refine (decide_eq_true ?_).symm; assumption) | (refine (decide_eq_false ?_).symm; assumption) | (refine rowGet ?_; (first | omega | (simp only [std]; omega) | grind)) | (refine getC ?_ rfl; (first | omega | (simp only [std]; omega) | grind)) | (refine fill_step ?_ ?_; (first | omega | (simp only [std]; omega) | grind); (first | rfl | exact (Row.eq _).trans rfl)) | (refine fill_init ?_; (first | rfl | exact (Row.eq _).trans rfl)) | (show (_ : St) = _; rfl) | grind [scan_step, scan_stop, getD_mem', snocI, snocS, rowSnoc]))
theorem run_c_iMeaD_s (d : Datum) (deep : Int) (q : Int) : aexec Try.prog (Option.getD (Func.body Try.f224) Code.skip) (entry [Ob.box [vI q]] [datumA d, li deep, SV.one (AC.ptr 0
 0)] 49) [Orc.br [Orc.bool true, Orc.bool true, Orc.fin []] [Orc.br [Orc.bool true, Orc.fin []] [Orc.call [Mode.rd, Mode.rd, Mode.rd, Mode.rd] [] (AV.sv (lb (nodD (Datum.kind d)
 (Datum.number d) (Datum.text d) (↑(List.length (List.map datumC (Datum.items d))) : Int)))), Orc.br [Orc.fin []] [Orc.ghost (Ghost.sel [0] [1, 2, 36, 37, 38]), Orc.loop
 (List.length (Datum.items d) - 0) (Lc_iMeaD_sLa d deep q 0) (Ic_iMeaD_sLa d deep q) [(Prod.fst (scan (fun x m => meaD x (deep + 1) m) (Datum.items d) (q + 1)) = true, AEx.exit 0,
 W0c_iMeaD_sLa d deep q (vI (Prod.snd (scan (fun x m => meaD x (deep + 1) m) (Datum.items d) (q + 1)))), [Orc.fin []]), (Prod.fst (scan (fun x m => meaD x (deep + 1) m)
 (Datum.items d) (q + 1)) = false, AEx.ret, W1c_iMeaD_sLa d deep q (lb false) (vI (Prod.snd (scan (fun x m => meaD x (deep + 1) m) (Datum.items d) (q + 1)))), [Orc.fin []])]]]]]
 (finK Try.prog [ResultVar.tmp 6] [Ob.box [vI (Prod.snd (meaD d deep q))]] (AV.sv (lb (Prod.fst (meaD d deep q))))) = (rng IntKind.i64 (q + 1) ∧ (decide (20 < deep) = true → true =
 true ∧ true = true ∧ ObsEq [Ob.box [vI (q + 1)]] [Ob.box [vI (Prod.snd (meaD d deep q))]] ∧ AV.sv (lb false) = AV.sv (lb (Prod.fst (meaD d deep q)))) ∧ (decide (20 < deep) = false
 → (decide (600 < q + 1) = true → true = true ∧ ObsEq [Ob.box [vI (q + 1)]] [Ob.box [vI (Prod.snd (meaD d deep q))]] ∧ AV.sv (lb false) = AV.sv (lb (Prod.fst (meaD d deep q)))) ∧
 (decide (600 < q + 1) = false → List.length (List.map datumC (Datum.items d)) ≤ 9223372036854775807 → P_c_iNode (Datum.kind d) (Datum.number d) (Datum.text d) (↑(List.length
 (List.map datumC (Datum.items d))) : Int) ∧ ((!nodD (Datum.kind d) (Datum.number d) (Datum.text d) (↑(List.length (List.map datumC (Datum.items d))) : Int)) = true → ObsEq [Ob.box
 [vI (q + 1)]] [Ob.box [vI (Prod.snd (meaD d deep q))]] ∧ AV.sv (lb false) = AV.sv (lb (Prod.fst (meaD d deep q)))) ∧ ((!nodD (Datum.kind d) (Datum.number d) (Datum.text d)
 (↑(List.length (List.map datumC (Datum.items d))) : Int)) = false → List.length (List.map datumC (Datum.items d)) ≤ 9223372036854775807 → Tc_iMeaD_sLa d deep q (li 0) (vI (q + 1))
 = Lc_iMeaD_sLa d deep q 0 ∧ Ic_iMeaD_sLa d deep q (List.length (Datum.items d) - 0) (Lc_iMeaD_sLa d deep q 0) ∧ LoopSem Try.prog (loopAt Try.f224 0) (Ic_iMeaD_sLa d deep q)
 (Yc_iMeaD_sLa d deep q) ∧ (Prod.fst (scan (fun x m => meaD x (deep + 1) m) (Datum.items d) (q + 1)) = true → ObsEq [Ob.box [vI (Prod.snd (scan (fun x m => meaD x (deep + 1) m)
 (Datum.items d) (q + 1)))]] [Ob.box [vI (Prod.snd (meaD d deep q))]] ∧ AV.sv (lb true) = AV.sv (lb (Prod.fst (meaD d deep q)))) ∧ (Prod.fst (scan (fun x m => meaD x (deep + 1) m)
 (Datum.items d) (q + 1)) = false → ObsEq [Ob.box [vI (Prod.snd (scan (fun x m => meaD x (deep + 1) m) (Datum.items d) (q + 1)))]] [Ob.box [vI (Prod.snd (meaD d deep q))]] ∧ AV.sv
 (lb false) = AV.sv (lb (Prod.fst (meaD d deep q)))) ∧ True)))) := by kernel_rfl
theorem c_iMeaD_s (d : Datum) (deep q : Int) (h : 0 ≤ deep ∧ deep ≤ 21 ∧ 0 ≤ q ∧ q ≤ 600) (ih : ∀ z ∈ d.items, ∀ (deep : Int) (q : Int) (h : 0 ≤ deep ∧ deep ≤ 21 ∧ 0 ≤ q ∧ q ≤
 600), P_c_iMeaD z deep q)  : P_c_iMeaD d deep q := by
  refine CallOK.ofRun wide (run_c_iMeaD_s d deep q) Try.call224 Try.func224 rfl rfl rfl ?_
  with_reducible repeat' (first | apply And.intro | exact flatI | exact flatS | exact rowLens | exact ih | (intro; skip) | apply obsN | apply obsC | apply obA | apply obM | apply obB | apply svA | apply tupA | apply lcA | apply lcS | apply svC | apply liC | apply lbC | apply lsC | apply vIc | apply vBc | apply vSc | apply vLc | apply mapC | apply Hc_iMeaD_sLa | apply Ec_iMeaD_sLa | apply Sc_iMeaD_sLa | apply EW0c_iMeaD_sLa | apply EW1c_iMeaD_sLa | apply c_iNode)
  all_goals (try simp only [std] at *)
  all_goals (try (first | with_reducible apply c_iNode | with_reducible apply ih | (simp only [← List.map_append]; first | with_reducible apply c_iNode | with_reducible apply ih)))
  all_goals (try (first | with_reducible rfl | omega | assumption | (refine (decide_eq_true ?_).symm; assumption) | (refine (decide_eq_false ?_).symm; assumption) | (refine rowGet ?_; (first | omega | (simp only [std]; omega) | grind)) | (refine getC ?_ rfl; (first | omega | (simp only [std]; omega) | grind)) | (refine fill_step ?_ ?_; (first | omega | (simp only [std]; omega) | grind); (first | rfl | exact (Row.eq _).trans rfl)) | (refine fill_init ?_; (first | rfl | exact (Row.eq _).trans rfl)) | (show (_ : St) = _; rfl) | grind [meaD_eq, scan, snocI, snocS, rowSnoc]))
theorem c_iMeaD (d : Datum) : ∀ (deep : Int) (q : Int) (h : 0 ≤ deep ∧ deep ≤ 21 ∧ 0 ≤ q ∧ q ≤ 600), P_c_iMeaD d deep q := Datum.ind (P := fun d => ∀ (deep : Int) (q : Int) (h : 0 ≤ deep ∧ deep ≤ 21 ∧ 0 ≤ q ∧ q ≤ 600), P_c_iMeaD d deep q) (fun d ih deep q h => c_iMeaD_s d deep q h ih) d
abbrev P_c_iIsDatum (d : Datum) : Prop := CallOK Try.prog 128 [] [datumA d] [] (.sv (lb (isDat d)))
theorem run_c_iIsDatum (d : Datum) : aexec Try.prog (Option.getD (Func.body Try.f128) Code.skip) (entry [] [datumA d] 6) [Orc.call [Mode.rd, Mode.rd, Mode.ptr] [Ob.box [vI
 (Prod.snd (meaD d 1 0))]] (AV.sv (lb (Prod.fst (meaD d 1 0)))), Orc.fin []] (finK Try.prog [ResultVar.tmp 2] [] (AV.sv (lb (isDat d)))) = (P_c_iMeaD d 1 0 ∧ ObsEq [] [] ∧ AV.sv
 (lb (Prod.fst (meaD d 1 0))) = AV.sv (lb (isDat d))) := by kernel_rfl
theorem c_iIsDatum (d : Datum)  : P_c_iIsDatum d := by
  refine CallOK.ofRun wide (run_c_iIsDatum d) Try.call128 Try.func128 rfl rfl rfl ?_
  with_reducible repeat' (first | apply And.intro | exact flatI | exact flatS | exact rowLens | (intro; skip) | apply obsN | apply obsC | apply obA | apply obM | apply obB | apply svA | apply tupA | apply lcA | apply lcS | apply svC | apply liC | apply lbC | apply lsC | apply vIc | apply vBc | apply vSc | apply vLc | apply mapC | apply c_iMeaD)
  all_goals (try simp only [std] at *)
  all_goals (try (first | with_reducible apply c_iMeaD | (simp only [← List.map_append]; first | with_reducible apply c_iMeaD)))
  all_goals (try (first | with_reducible rfl | omega | assumption | (refine (decide_eq_true ?_).symm; assumption) | (refine (decide_eq_false ?_).symm; assumption) | (refine rowGet ?_; (first | omega | (simp only [std]; omega) | grind)) | (refine getC ?_ rfl; (first | omega | (simp only [std]; omega) | grind)) | (refine fill_step ?_ ?_; (first | omega | (simp only [std]; omega) | grind); (first | rfl | exact (Row.eq _).trans rfl)) | (refine fill_init ?_; (first | rfl | exact (Row.eq _).trans rfl)) | (show (_ : St) = _; rfl) | grind [meaD_isDat, snocI, snocS, rowSnoc]))
end Go.Proofs.Ytehpjofddjmbpaa
end
section
namespace Go.Proofs.Ytehpjofddjmbpaa
open Go Go.Proofs.Ytehpjofddjmbpaa.Ab
set_option linter.unusedVariables false
set_option linter.unusedSimpArgs false
set_option maxHeartbeats 4000000
def addU (L : List Int) (n : Int) : List Int := if n ∈ L then L else L ++ [n]
def memI (S : List Int) (n : Int) : Int := if n ∈ S then 1 else 0
def cntI (b : List Int) (n : Int) : Int := (b.count n : Int)
theorem memI_nil : zI = memI [] := by funext m; simp [zI, memI]
theorem memI_snoc {S : List Int} {n : Int} : upd1 (memI S) n 1 = memI (S ++ [n]) := by
  funext m; simp only [upd1, memI, List.mem_append, List.mem_singleton]; grind
theorem cntI_inc {b : List Int} {n : Int} : upd1 (cntI b) n (cntI b n + 1) = cntI (b ++ [n]) := by
  funext m; simp only [upd1, cntI, List.count_append, List.count_singleton]; grind
theorem cntI_dec {b p : List Int} {n : Int} : upd1 (cntI (b ++ n :: p)) n (cntI (b ++ n :: p) n - 1) = cntI (b ++ p) := by
  funext m; simp only [upd1, cntI, List.count_append, List.count_cons]; grind
theorem cntI_zero {b : List Int} {n : Int} : cntI b n = 0 ↔ n ∉ b := by
  simp only [cntI]; rw [← List.count_eq_zero]; omega
theorem cntI_le {b : List Int} {n : Int} : 0 ≤ cntI b n ∧ cntI b n ≤ b.length := by
  have := List.count_le_length (a := n) (l := b)
  simp only [cntI]; omega
theorem memI_zero {b : List Int} {n : Int} : memI b n = 0 ↔ n ∉ b := by
  simp only [memI]; grind
theorem addU_len (L : List Int) (n : Int) : (addU L n).length ≤ L.length + 1 := by
  unfold addU; split <;> simp
mutual
def fre : Core → List Int → List Int → List Int
  | ⟨k, n, p, _, l⟩, b, o => fres l (b ++ p) (if (k = 2 ∨ k = 4) ∧ n ∉ b then addU o n else o)
def fres : List Core → List Int → List Int → List Int
  | [], _, o => o
  | x :: r, b, o => fres r b (fre x b o)
end
theorem fres_eq : ∀ (l : List Core) (b o : List Int), fres l b o = l.foldl (fun o x => fre x b o) o
  | [], _, _ => by rw [fres]; rfl
  | x :: r, b, o => by rw [fres, fres_eq r]; rfl
def fre0 (c : Core) (b o : List Int) : List Int := if (c.kind = 2 ∨ c.kind = 4) ∧ c.number ∉ b then addU o c.number else o
theorem fre_eq (c : Core) (b o : List Int) : fre c b o = c.kids.foldl (fun o x => fre x (b ++ c.params) o) (fre0 c b o) := by cases c; simp only [fre, fres_eq, fre0]
theorem fre_len : ∀ c b o, (fre c b o).length ≤ o.length + 1 + wC c := by
  refine Core.ind fun c ih b o => ?_
  rw [fre_eq, wC_eq]
  have h : ∀ (L : List Core), (∀ y ∈ L, ∀ b o, (fre y b o).length ≤ o.length + 1 + wC y) → ∀ o, (L.foldl (fun o x => fre x (b ++ c.params) o) o).length ≤ o.length + L.length + sumBy wC L := by
    intro L
    induction L with
    | nil => intro _ o; simp [sumBy]
    | cons x r ihr =>
      intro hL o
      have h1 := hL x List.mem_cons_self (b ++ c.params) o
      have h2 := ihr (fun y hy => hL y (List.mem_cons_of_mem _ hy)) (fre x (b ++ c.params) o)
      simp only [List.foldl_cons, sumBy, List.length_cons]; omega
  have h1 := h c.kids ih (fre0 c b o)
  have h2 : (fre0 c b o).length ≤ o.length + 1 := by
    unfold fre0; split
    · exact addU_len _ _
    · omega
  omega
theorem fre0_len (c : Core) (b o : List Int) : (fre0 c b o).length ≤ o.length + 1 := by
  unfold fre0; split
  · exact addU_len _ _
  · omega
abbrev P_c_addNum (S : List Int) (n : Int) : Prop := CallOK Try.prog 257 [.box [.ref 1, .mref 2], .arr true 1 (S.map intC), .map (decide (S = [])) kI (mI (memI S))] [.one (.ptr 0 0), li n] [.box [.ref 3, .mref 4], .dead, .dead, .arr true 1 ((addU S n).map intC), .map (decide (addU S n = [])) kI (mI (memI (addU S n)))] (.tup [])
theorem run_c_addNum (S : List Int) (n : Int) : aexec Try.prog (Option.getD (Func.body Try.f257) Code.skip) (entry [Ob.box [AC.ref 1, AC.mref 2], Ob.arr true 1 (List.map intC S),
 Ob.map (decide (S = [])) kI (mI (memI S))] [SV.one (AC.ptr 0 0), li n] 35) [Orc.br [Orc.mkmap kI, Orc.cells [cI (zI n)], Orc.bool true, Orc.upd (mI (upd1 zI n 1)), Orc.ghost
 (Ghost.move 2), Orc.fin [5, 3]] [Orc.cells [cI (memI S n)], Orc.br [Orc.upd (mI (upd1 (memI S) n 1)), Orc.ghost (Ghost.move 2), Orc.fin [4, 5]] [Orc.ghost (Ghost.move 1),
 Orc.ghost (Ghost.move 2), Orc.fin [3, 4]]]] (finK Try.prog [] [Ob.box [AC.ref 3, AC.mref 4], Ob.dead, Ob.dead, Ob.arr true 1 (List.map intC (addU S n)), Ob.map (decide (addU S n =
 [])) kI (mI (memI (addU S n)))] (AV.tup [])) = ((decide (S = []) = true → LookAt (Value.int IntKind.i64 0) (mI zI) (Value.int IntKind.i64 n) (cI 0) ∧ true = true ∧ false = false ∧
 UpdF (MK.d kI) (mI zI) (mI (upd1 zI n 1)) (Value.int IntKind.i64 n) (some (cI 1)) ∧ (List.length (List.map intC S) + 1) * 8 ≤ 140737488355328 ∧ ObsEq [Ob.box [AC.ref 3, AC.mref
 4], Ob.dead, Ob.dead, Ob.arr true 1 (List.map intC S ++ [[cI n]]), Ob.map false kI (mI (upd1 zI n 1))] [Ob.box [AC.ref 3, AC.mref 4], Ob.dead, Ob.dead, Ob.arr true 1 (List.map
 intC (addU S n)), Ob.map (decide (addU S n = [])) kI (mI (memI (addU S n)))] ∧ AV.tup [] = AV.tup []) ∧ (decide (S = []) = false → LookAt (Value.int IntKind.i64 0) (mI (memI S))
 (Value.int IntKind.i64 n) (cI (memI S n)) ∧ (decide (memI S n = 0) = true → decide (S = []) = false ∧ UpdF (MK.d kI) (mI (memI S)) (mI (upd1 (memI S) n 1)) (Value.int IntKind.i64
 n) (some (cI 1)) ∧ (List.length (List.map intC S) + 1) * 8 ≤ 140737488355328 ∧ ObsEq [Ob.box [AC.ref 3, AC.mref 4], Ob.dead, Ob.dead, Ob.arr true 1 (List.map intC S ++ [[cI n]]),
 Ob.map (decide (S = [])) kI (mI (upd1 (memI S) n 1))] [Ob.box [AC.ref 3, AC.mref 4], Ob.dead, Ob.dead, Ob.arr true 1 (List.map intC (addU S n)), Ob.map (decide (addU S n = [])) kI
 (mI (memI (addU S n)))] ∧ AV.tup [] = AV.tup []) ∧ (decide (memI S n = 0) = false → ObsEq [Ob.box [AC.ref 3, AC.mref 4], Ob.dead, Ob.dead, Ob.arr true 1 (List.map intC S), Ob.map
 (decide (S = [])) kI (mI (memI S))] [Ob.box [AC.ref 3, AC.mref 4], Ob.dead, Ob.dead, Ob.arr true 1 (List.map intC (addU S n)), Ob.map (decide (addU S n = [])) kI (mI (memI (addU S
 n)))] ∧ AV.tup [] = AV.tup []))) := by kernel_rfl
theorem c_addNum (S : List Int) (n : Int) (h : S.length < 2147483647)  : P_c_addNum S n := by
  refine CallOK.ofRun wide (run_c_addNum S n) Try.call257 Try.func257 rfl rfl rfl ?_
  with_reducible repeat' (first | apply And.intro | exact flatI | exact flatS | exact rowLens | (intro; skip) | apply obsN | apply obsC | apply obA | apply obM | apply obB | apply svA | apply tupA | apply lcA | apply lcS | apply svC | apply liC | apply lbC | apply lsC | apply vIc | apply vBc | apply vSc | apply vLc | apply mapC | apply mIc | apply mOc | apply mSc | apply mLc)
  all_goals (try simp only [std] at *)
  all_goals (try (first | with_reducible rfl | omega | assumption | (refine (decide_eq_true ?_).symm; assumption) | (refine (decide_eq_false ?_).symm; assumption) | (refine rowGet ?_; (first | omega | (simp only [std]; omega) | grind)) | (refine getC ?_ rfl; (first | omega | (simp only [std]; omega) | grind)) | exact look_mI | exact look_mO | exact look_mO1 | exact look_mS | exact look_mL | exact upd_mI | exact upd_mO | exact del_mO | exact upd_mS | exact take_mL | (refine upd_mL ?_; grind) | (refine fill_step ?_ ?_; (first | omega | (simp only [std]; omega) | grind); (first | rfl | exact (Row.eq _).trans rfl)) | (refine fill_init ?_; (first | rfl | exact (Row.eq _).trans rfl)) | grind [addU, memI_zero, memI_snoc, memI_nil, List.append_eq_nil_iff, snocI, snocS, rowSnoc]))
abbrev P_c_freeIn (c : Core) (b : List Int) (S : List Int) : Prop := CallOK Try.prog 189 [.map false kI (mI (cntI b)), .box [.ref 2, .mref 3], .arr true 1 (S.map intC), .map (decide (S = [])) kI (mI (memI S))] [coreA c, .one (.mref 0), .one (.ptr 1 0)] [.map false kI (mI (cntI b)), .box [.ref 4, .mref 5], .dead, .dead, .arr true 1 ((fre c b S).map intC), .map (decide (fre c b S = [])) kI (mI (memI (fre c b S)))] (.tup [])
def Tc_freeIn_sLa (c : Core) (b : List Int) (S : List Int) (x0 : SV) (x1 : Ob) (x2 : Ob) (x3 : Ob) : St := St.mk (regsOf 67 [(1, AV.sv (SV.one (AC.mref 0))), (2, AV.sv (SV.one
 (AC.ptr 1 0))), (3, AV.sv (SV.one (AC.ptr 4 0))), (32, AV.sv (ll (List.map intC (Core.params c)))), (33, AV.sv (li (↑(List.length (List.map intC (Core.params c))) : Int))), (34,
 AV.sv x0)]) [x1, Ob.box [AC.ref 5, AC.mref 6], Ob.dead, Ob.dead, Ob.box (vals (coreF c)), x2, x3] 4 
def Lc_freeIn_sLa (c : Core) (b : List Int) (S : List Int) (k : Nat) : St := Tc_freeIn_sLa c b S (li (↑k : Int)) (Ob.map false kI (mI (cntI (b ++ List.take k (Core.params c)))))
 (Ob.arr true 1 (List.map intC (fre0 c b S))) (Ob.map (decide (fre0 c b S = [])) kI (mI (memI (fre0 c b S)))) 
def Ic_freeIn_sLa (c : Core) (b : List Int) (S : List Int) : Nat → St → Prop := Head (Lc_freeIn_sLa c b S) (fun k => k ≤ List.length (Core.params c) ∧ List.length (Core.params c) ≤
 9223372036854775807) fun k => List.length (Core.params c) - k 
def W0c_freeIn_sLa (c : Core) (b : List Int) (S : List Int) (x0 : Ob) (x1 : Ob) (x2 : Ob) : St := St.mk (regsOf 67 [(1, AV.sv (SV.one (AC.mref 0))), (2, AV.sv (SV.one (AC.ptr 1
 0))), (3, AV.sv (SV.one (AC.ptr 4 0)))]) [x0, Ob.box [AC.ref 5, AC.mref 6], Ob.dead, Ob.dead, Ob.box (vals (coreF c)), x1, x2] 4 
def Yc_freeIn_sLa (c : Core) (b : List Int) (S : List Int) : List (Prop × AEx × St) := [(True, AEx.exit 0, W0c_freeIn_sLa c b S (Ob.map false kI (mI (cntI (b ++ Core.params c))))
 (Ob.arr true 1 (List.map intC (fre0 c b S))) (Ob.map (decide (fre0 c b S = [])) kI (mI (memI (fre0 c b S)))))]
theorem Hc_freeIn_sLa {c : Core} {b : List Int} {S : List Int} {k : Nat} {m : Nat} (h : (fun k => k ≤ List.length (Core.params c) ∧ List.length (Core.params c) ≤
 9223372036854775807) k) (hm : (fun k => List.length (Core.params c) - k) k = m) : Ic_freeIn_sLa c b S m (Lc_freeIn_sLa c b S k) := hm ▸ Head.mk h
theorem Ec_freeIn_sLa {c : Core} {b : List Int} {S : List Int} {k : Nat} {x0 : SV} {x1 : Ob} {x2 : Ob} {x3 : Ob} (h0 : x0 = (li (↑k : Int))) (h1 : x1 = (Ob.map false kI (mI (cntI
 (b ++ List.take k (Core.params c)))))) (h2 : x2 = (Ob.arr true 1 (List.map intC (fre0 c b S)))) (h3 : x3 = (Ob.map (decide (fre0 c b S = [])) kI (mI (memI (fre0 c b S))))) :
 Tc_freeIn_sLa c b S x0 x1 x2 x3 = Lc_freeIn_sLa c b S k := by
  rw [h0, h1, h2, h3]
  rfl
theorem EW0c_freeIn_sLa {c : Core} {b : List Int} {S : List Int} {x0 y0 : Ob} {x1 y1 : Ob} {x2 y2 : Ob} (h0 : x0 = y0) (h1 : x1 = y1) (h2 : x2 = y2) : W0c_freeIn_sLa c b S x0 x1 x2
 = W0c_freeIn_sLa c b S y0 y1 y2 := by rw [h0, h1, h2]
theorem run_c_freeIn_sLa (c : Core) (b : List Int) (S : List Int) (k : Nat) : aexec Try.prog (loopAt Try.f189 0) (Lc_freeIn_sLa c b S k) [Orc.br [Orc.cells (intC (List.getD
 (Core.params c) k default)), Orc.cells [cI (cntI (b ++ List.take k (Core.params c)) (List.getD (Core.params c) k 0))], Orc.upd (mI (upd1 (cntI (b ++ List.take k (Core.params c)))
 (List.getD (Core.params c) k 0) (cntI (b ++ List.take k (Core.params c)) (List.getD (Core.params c) k 0) + 1))), Orc.ghost (Ghost.sel [0, 1, 2, 3, 4, 5, 6] [1, 2, 3, 32, 33, 34]),
 Orc.goto (List.length (Core.params c) - (k + 1)) (Lc_freeIn_sLa c b S (k + 1))] [Orc.ghost (Ghost.sel [0, 1, 2, 3, 4, 5, 6] [1, 2, 3]), Orc.out 0]] (loopK (Ic_freeIn_sLa c b S)
 (Yc_freeIn_sLa c b S) (List.length (Core.params c) - k)) = ((decide ((↑k : Int) < (↑(List.length (List.map intC (Core.params c))) : Int)) = true → (0 ≤ (↑k : Int) ∧ (List.map intC
 (Core.params c))[Int.toNat (↑k : Int)]? = some [cI (List.getD (Core.params c) k 0)]) ∧ LookAt (Value.int IntKind.i64 0) (mI (cntI (b ++ List.take k (Core.params c)))) (Value.int
 IntKind.i64 (List.getD (Core.params c) k 0)) (cI (cntI (b ++ List.take k (Core.params c)) (List.getD (Core.params c) k 0))) ∧ rng IntKind.i64 (cntI (b ++ List.take k (Core.params
 c)) (List.getD (Core.params c) k 0) + 1) ∧ false = false ∧ UpdF (MK.d kI) (mI (cntI (b ++ List.take k (Core.params c)))) (mI (upd1 (cntI (b ++ List.take k (Core.params c)))
 (List.getD (Core.params c) k 0) (cntI (b ++ List.take k (Core.params c)) (List.getD (Core.params c) k 0) + 1))) (Value.int IntKind.i64 (List.getD (Core.params c) k 0)) (some (cI
 (cntI (b ++ List.take k (Core.params c)) (List.getD (Core.params c) k 0) + 1))) ∧ rng IntKind.i64 ((↑k : Int) + 1) ∧ List.length (Core.params c) - (k + 1) < List.length
 (Core.params c) - k ∧ Tc_freeIn_sLa c b S (li ((↑k : Int) + 1)) (Ob.map false kI (mI (upd1 (cntI (b ++ List.take k (Core.params c))) (List.getD (Core.params c) k 0) (cntI (b ++
 List.take k (Core.params c)) (List.getD (Core.params c) k 0) + 1)))) (Ob.arr true 1 (List.map intC (fre0 c b S))) (Ob.map (decide (fre0 c b S = [])) kI (mI (memI (fre0 c b S)))) =
 Lc_freeIn_sLa c b S (k + 1) ∧ Ic_freeIn_sLa c b S (List.length (Core.params c) - (k + 1)) (Lc_freeIn_sLa c b S (k + 1))) ∧ (decide ((↑k : Int) < (↑(List.length (List.map intC
 (Core.params c))) : Int)) = false → True ∧ W0c_freeIn_sLa c b S (Ob.map false kI (mI (cntI (b ++ List.take k (Core.params c))))) (Ob.arr true 1 (List.map intC (fre0 c b S)))
 (Ob.map (decide (fre0 c b S = [])) kI (mI (memI (fre0 c b S)))) = W0c_freeIn_sLa c b S (Ob.map false kI (mI (cntI (b ++ Core.params c)))) (Ob.arr true 1 (List.map intC (fre0 c b
 S))) (Ob.map (decide (fre0 c b S = [])) kI (mI (memI (fre0 c b S)))))) := by kernel_rfl
def Tc_freeIn_sLb (c : Core) (b : List Int) (S : List Int) (x0 : SV) (x1 : Ob) (x2 : Ob) : St := St.mk (regsOf 67 [(1, AV.sv (SV.one (AC.mref 0))), (2, AV.sv (SV.one (AC.ptr 1
 0))), (3, AV.sv (SV.one (AC.ptr 4 0))), (44, AV.sv (ll (List.map coreC (Core.kids c)))), (45, AV.sv (li (↑(List.length (List.map coreC (Core.kids c))) : Int))), (46, AV.sv x0)])
 [Ob.map false kI (mI (cntI (b ++ Core.params c))), Ob.box [AC.ref 5, AC.mref 6], Ob.dead, Ob.dead, Ob.box (vals (coreF c)), x1, x2] 4 
def Lc_freeIn_sLb (c : Core) (b : List Int) (S : List Int) (k : Nat) : St := Tc_freeIn_sLb c b S (li (↑k : Int)) (Ob.arr true 1 (List.map intC (List.foldl (fun o x => fre x (b ++
 Core.params c) o) (fre0 c b S) (List.take k (Core.kids c))))) (Ob.map (decide (List.foldl (fun o x => fre x (b ++ Core.params c) o) (fre0 c b S) (List.take k (Core.kids c)) = []))
 kI (mI (memI (List.foldl (fun o x => fre x (b ++ Core.params c) o) (fre0 c b S) (List.take k (Core.kids c)))))) 
def Ic_freeIn_sLb (c : Core) (b : List Int) (S : List Int) : Nat → St → Prop := Head (Lc_freeIn_sLb c b S) (fun k => k ≤ List.length (Core.kids c) ∧ List.length (Core.kids c) ≤
 9223372036854775807) fun k => List.length (Core.kids c) - k 
def W0c_freeIn_sLb (c : Core) (b : List Int) (S : List Int) (x0 : Ob) (x1 : Ob) : St := St.mk (regsOf 67 [(1, AV.sv (SV.one (AC.mref 0))), (3, AV.sv (SV.one (AC.ptr 4 0)))])
 [Ob.map false kI (mI (cntI (b ++ Core.params c))), Ob.box [AC.ref 5, AC.mref 6], Ob.dead, Ob.dead, Ob.box (vals (coreF c)), x0, x1] 4 
def Yc_freeIn_sLb (c : Core) (b : List Int) (S : List Int) : List (Prop × AEx × St) := [(True, AEx.exit 2, W0c_freeIn_sLb c b S (Ob.arr true 1 (List.map intC (fre c b S))) (Ob.map
 (decide (fre c b S = [])) kI (mI (memI (fre c b S)))))]
theorem Hc_freeIn_sLb {c : Core} {b : List Int} {S : List Int} {k : Nat} {m : Nat} (h : (fun k => k ≤ List.length (Core.kids c) ∧ List.length (Core.kids c) ≤ 9223372036854775807)
 k) (hm : (fun k => List.length (Core.kids c) - k) k = m) : Ic_freeIn_sLb c b S m (Lc_freeIn_sLb c b S k) := hm ▸ Head.mk h
theorem Ec_freeIn_sLb {c : Core} {b : List Int} {S : List Int} {k : Nat} {x0 : SV} {x1 : Ob} {x2 : Ob} (h0 : x0 = (li (↑k : Int))) (h1 : x1 = (Ob.arr true 1 (List.map intC
 (List.foldl (fun o x => fre x (b ++ Core.params c) o) (fre0 c b S) (List.take k (Core.kids c)))))) (h2 : x2 = (Ob.map (decide (List.foldl (fun o x => fre x (b ++ Core.params c) o)
 (fre0 c b S) (List.take k (Core.kids c)) = [])) kI (mI (memI (List.foldl (fun o x => fre x (b ++ Core.params c) o) (fre0 c b S) (List.take k (Core.kids c))))))) : Tc_freeIn_sLb c
 b S x0 x1 x2 = Lc_freeIn_sLb c b S k := by
  rw [h0, h1, h2]
  rfl
theorem EW0c_freeIn_sLb {c : Core} {b : List Int} {S : List Int} {x0 y0 : Ob} {x1 y1 : Ob} (h0 : x0 = y0) (h1 : x1 = y1) : W0c_freeIn_sLb c b S x0 x1 = W0c_freeIn_sLb c b S y0 y1
 := by rw [h0, h1]
theorem run_c_freeIn_sLb (c : Core) (b : List Int) (S : List Int) (k : Nat) : aexec Try.prog (loopAt Try.f189 1) (Lc_freeIn_sLb c b S k) [Orc.br [Orc.cells (coreF (List.getD
 (Core.kids c) k default)), Orc.call [Mode.rd, Mode.map, Mode.ptr] [Ob.map false kI (mI (cntI (b ++ Core.params c))), Ob.box [AC.ref 4, AC.mref 5], Ob.dead, Ob.dead, Ob.arr true 1
 (List.map intC (fre (List.getD (Core.kids c) k default) (b ++ Core.params c) (List.foldl (fun o x => fre x (b ++ Core.params c) o) (fre0 c b S) (List.take k (Core.kids c))))),
 Ob.map (decide (fre (List.getD (Core.kids c) k default) (b ++ Core.params c) (List.foldl (fun o x => fre x (b ++ Core.params c) o) (fre0 c b S) (List.take k (Core.kids c))) = []))
 kI (mI (memI (fre (List.getD (Core.kids c) k default) (b ++ Core.params c) (List.foldl (fun o x => fre x (b ++ Core.params c) o) (fre0 c b S) (List.take k (Core.kids c))))))]
 (AV.tup []), Orc.ghost (Ghost.sel [0, 1, 2, 3, 4, 12, 13] [1, 2, 3, 44, 45, 46]), Orc.goto (List.length (Core.kids c) - (k + 1)) (Lc_freeIn_sLb c b S (k + 1))] [Orc.ghost
 (Ghost.sel [0, 1, 2, 3, 4, 5, 6] [1, 3]), Orc.out 0]] (loopK (Ic_freeIn_sLb c b S) (Yc_freeIn_sLb c b S) (List.length (Core.kids c) - k)) = ((decide ((↑k : Int) < (↑(List.length
 (List.map coreC (Core.kids c))) : Int)) = true → (0 ≤ (↑k : Int) ∧ (List.map coreC (Core.kids c))[Int.toNat (↑k : Int)]? = some (coreF (List.getD (Core.kids c) k default))) ∧
 P_c_freeIn (List.getD (Core.kids c) k default) (b ++ Core.params c) (List.foldl (fun o x => fre x (b ++ Core.params c) o) (fre0 c b S) (List.take k (Core.kids c))) ∧ rng
 IntKind.i64 ((↑k : Int) + 1) ∧ List.length (Core.kids c) - (k + 1) < List.length (Core.kids c) - k ∧ Tc_freeIn_sLb c b S (li ((↑k : Int) + 1)) (Ob.arr true 1 (List.map intC (fre
 (List.getD (Core.kids c) k default) (b ++ Core.params c) (List.foldl (fun o x => fre x (b ++ Core.params c) o) (fre0 c b S) (List.take k (Core.kids c)))))) (Ob.map (decide (fre
 (List.getD (Core.kids c) k default) (b ++ Core.params c) (List.foldl (fun o x => fre x (b ++ Core.params c) o) (fre0 c b S) (List.take k (Core.kids c))) = [])) kI (mI (memI (fre
 (List.getD (Core.kids c) k default) (b ++ Core.params c) (List.foldl (fun o x => fre x (b ++ Core.params c) o) (fre0 c b S) (List.take k (Core.kids c))))))) = Lc_freeIn_sLb c b S
 (k + 1) ∧ Ic_freeIn_sLb c b S (List.length (Core.kids c) - (k + 1)) (Lc_freeIn_sLb c b S (k + 1))) ∧ (decide ((↑k : Int) < (↑(List.length (List.map coreC (Core.kids c))) : Int)) =
 false → True ∧ W0c_freeIn_sLb c b S (Ob.arr true 1 (List.map intC (List.foldl (fun o x => fre x (b ++ Core.params c) o) (fre0 c b S) (List.take k (Core.kids c))))) (Ob.map (decide
 (List.foldl (fun o x => fre x (b ++ Core.params c) o) (fre0 c b S) (List.take k (Core.kids c)) = [])) kI (mI (memI (List.foldl (fun o x => fre x (b ++ Core.params c) o) (fre0 c b
 S) (List.take k (Core.kids c)))))) = W0c_freeIn_sLb c b S (Ob.arr true 1 (List.map intC (fre c b S))) (Ob.map (decide (fre c b S = [])) kI (mI (memI (fre c b S)))))) := by
 kernel_rfl
def Tc_freeIn_sLc (c : Core) (b : List Int) (S : List Int) (x0 : SV) (x1 : Ob) : St := St.mk (regsOf 67 [(1, AV.sv (SV.one (AC.mref 0))), (56, AV.sv (ll (List.map intC (Core.params
 c)))), (57, AV.sv (li (↑(List.length (List.map intC (Core.params c))) : Int))), (58, AV.sv x0)]) [x1, Ob.box [AC.ref 4, AC.mref 5], Ob.dead, Ob.dead, Ob.arr true 1 (List.map intC
 (fre c b S)), Ob.map (decide (fre c b S = [])) kI (mI (memI (fre c b S)))] 4 
def Lc_freeIn_sLc (c : Core) (b : List Int) (S : List Int) (k : Nat) : St := Tc_freeIn_sLc c b S (li (↑k : Int)) (Ob.map false kI (mI (cntI (b ++ List.drop k (Core.params c))))) 
def Ic_freeIn_sLc (c : Core) (b : List Int) (S : List Int) : Nat → St → Prop := Head (Lc_freeIn_sLc c b S) (fun k => k ≤ List.length (Core.params c) ∧ List.length (Core.params c) ≤
 9223372036854775807) fun k => List.length (Core.params c) - k 
def W0c_freeIn_sLc (c : Core) (b : List Int) (S : List Int) (x0 : Ob) : St := St.mk (regsOf 67 []) [x0, Ob.box [AC.ref 4, AC.mref 5], Ob.dead, Ob.dead, Ob.arr true 1 (List.map intC
 (fre c b S)), Ob.map (decide (fre c b S = [])) kI (mI (memI (fre c b S)))] 4 
def Yc_freeIn_sLc (c : Core) (b : List Int) (S : List Int) : List (Prop × AEx × St) := [(True, AEx.exit 4, W0c_freeIn_sLc c b S (Ob.map false kI (mI (cntI b))))]
theorem Hc_freeIn_sLc {c : Core} {b : List Int} {S : List Int} {k : Nat} {m : Nat} (h : (fun k => k ≤ List.length (Core.params c) ∧ List.length (Core.params c) ≤
 9223372036854775807) k) (hm : (fun k => List.length (Core.params c) - k) k = m) : Ic_freeIn_sLc c b S m (Lc_freeIn_sLc c b S k) := hm ▸ Head.mk h
theorem Ec_freeIn_sLc {c : Core} {b : List Int} {S : List Int} {k : Nat} {x0 : SV} {x1 : Ob} (h0 : x0 = (li (↑k : Int))) (h1 : x1 = (Ob.map false kI (mI (cntI (b ++ List.drop k
 (Core.params c)))))) : Tc_freeIn_sLc c b S x0 x1 = Lc_freeIn_sLc c b S k := by
  rw [h0, h1]
  rfl
theorem EW0c_freeIn_sLc {c : Core} {b : List Int} {S : List Int} {x0 y0 : Ob} (h0 : x0 = y0) : W0c_freeIn_sLc c b S x0 = W0c_freeIn_sLc c b S y0 := by rw [h0]
theorem run_c_freeIn_sLc (c : Core) (b : List Int) (S : List Int) (k : Nat) : aexec Try.prog (loopAt Try.f189 2) (Lc_freeIn_sLc c b S k) [Orc.br [Orc.cells (intC (List.getD
 (Core.params c) k default)), Orc.cells [cI (cntI (b ++ List.drop k (Core.params c)) (List.getD (Core.params c) k 0))], Orc.upd (mI (upd1 (cntI (b ++ List.drop k (Core.params c)))
 (List.getD (Core.params c) k 0) (cntI (b ++ List.drop k (Core.params c)) (List.getD (Core.params c) k 0) - 1))), Orc.ghost (Ghost.sel [0, 1, 2, 3, 4, 5] [1, 56, 57, 58]), Orc.goto
 (List.length (Core.params c) - (k + 1)) (Lc_freeIn_sLc c b S (k + 1))] [Orc.ghost (Ghost.sel [0, 1, 2, 3, 4, 5] []), Orc.out 0]] (loopK (Ic_freeIn_sLc c b S) (Yc_freeIn_sLc c b S)
 (List.length (Core.params c) - k)) = ((decide ((↑k : Int) < (↑(List.length (List.map intC (Core.params c))) : Int)) = true → (0 ≤ (↑k : Int) ∧ (List.map intC (Core.params
 c))[Int.toNat (↑k : Int)]? = some [cI (List.getD (Core.params c) k 0)]) ∧ LookAt (Value.int IntKind.i64 0) (mI (cntI (b ++ List.drop k (Core.params c)))) (Value.int IntKind.i64
 (List.getD (Core.params c) k 0)) (cI (cntI (b ++ List.drop k (Core.params c)) (List.getD (Core.params c) k 0))) ∧ rng IntKind.i64 (cntI (b ++ List.drop k (Core.params c))
 (List.getD (Core.params c) k 0) - 1) ∧ false = false ∧ UpdF (MK.d kI) (mI (cntI (b ++ List.drop k (Core.params c)))) (mI (upd1 (cntI (b ++ List.drop k (Core.params c))) (List.getD
 (Core.params c) k 0) (cntI (b ++ List.drop k (Core.params c)) (List.getD (Core.params c) k 0) - 1))) (Value.int IntKind.i64 (List.getD (Core.params c) k 0)) (some (cI (cntI (b ++
 List.drop k (Core.params c)) (List.getD (Core.params c) k 0) - 1))) ∧ rng IntKind.i64 ((↑k : Int) + 1) ∧ List.length (Core.params c) - (k + 1) < List.length (Core.params c) - k ∧
 Tc_freeIn_sLc c b S (li ((↑k : Int) + 1)) (Ob.map false kI (mI (upd1 (cntI (b ++ List.drop k (Core.params c))) (List.getD (Core.params c) k 0) (cntI (b ++ List.drop k (Core.params
 c)) (List.getD (Core.params c) k 0) - 1)))) = Lc_freeIn_sLc c b S (k + 1) ∧ Ic_freeIn_sLc c b S (List.length (Core.params c) - (k + 1)) (Lc_freeIn_sLc c b S (k + 1))) ∧ (decide
 ((↑k : Int) < (↑(List.length (List.map intC (Core.params c))) : Int)) = false → True ∧ W0c_freeIn_sLc c b S (Ob.map false kI (mI (cntI (b ++ List.drop k (Core.params c))))) =
 W0c_freeIn_sLc c b S (Ob.map false kI (mI (cntI b))))) := by kernel_rfl
theorem Sc_freeIn_sLc (c : Core) (b : List Int) (S : List Int) (h : List.length b + List.length S + wC c + 1 ≤ 2147483647) (ih : ∀ (z : Core), z ∈ Core.kids c → ∀ (b S : List Int),
 List.length b + List.length S + wC z + 1 ≤ 2147483647 → P_c_freeIn z b S)  : LoopSem Try.prog (loopAt Try.f189 2) (Ic_freeIn_sLc c b S) (Yc_freeIn_sLc c b S) := by
  refine LoopSem.ofHead wide fun k h => ⟨_, _, run_c_freeIn_sLc c b S k, ?_⟩
  have g := fun L n => (cntI_le (b := L) (n := n)).2
  have g' := fun L n => (cntI_le (b := L) (n := n)).1
  have g4 := wC_eq c
  with_reducible repeat' (first | apply And.intro | exact flatI | exact flatS | exact rowLens | exact ih | (intro; skip) | apply obsN | apply obsC | apply obA | apply obM | apply obB | apply svA | apply tupA | apply lcA | apply lcS | apply svC | apply liC | apply lbC | apply lsC | apply vIc | apply vBc | apply vSc | apply vLc | apply mapC | apply mIc | apply mOc | apply mSc | apply mLc | apply Hc_freeIn_sLa | apply Ec_freeIn_sLa | apply Hc_freeIn_sLb | apply Ec_freeIn_sLb | apply Hc_freeIn_sLc | apply Ec_freeIn_sLc | apply EW0c_freeIn_sLa | apply EW0c_freeIn_sLb | apply EW0c_freeIn_sLc | apply c_addNum)
  all_goals (try simp only [std] at *)
  all_goals (try (first | with_reducible rfl | omega | assumption | (refine (decide_eq_true ?_).symm; assumption) | (refine (decide_eq_false ?_).symm; assumption) | (refine rowGet ?_; (first | omega | (simp only [std]; omega) | grind)) | (refine getC ?_ rfl; (first | omega | (simp only [std]; omega) | grind)) | exact look_mI | exact look_mO | exact look_mO1 | exact look_mS | exact look_mL | exact upd_mI | exact upd_mO | exact del_mO | exact upd_mS | exact take_mL | (refine upd_mL ?_; grind) | (refine fill_step ?_ ?_; (first | omega | (simp only [std]; omega) | grind); (first | rfl | exact (Row.eq _).trans rfl)) | (refine fill_init ?_; (first | rfl | exact (Row.eq _).trans rfl)) | grind [cntI_dec, drop_get, snocI, snocS, rowSnoc]))
theorem Sc_freeIn_sLb (c : Core) (b : List Int) (S : List Int) (h : List.length b + List.length S + wC c + 1 ≤ 2147483647) (ih : ∀ (z : Core), z ∈ Core.kids c → ∀ (b S : List Int),
 List.length b + List.length S + wC z + 1 ≤ 2147483647 → P_c_freeIn z b S)  : LoopSem Try.prog (loopAt Try.f189 1) (Ic_freeIn_sLb c b S) (Yc_freeIn_sLb c b S) := by
  refine LoopSem.ofHead wide fun k h => ⟨_, _, run_c_freeIn_sLb c b S k, ?_⟩
  have g1 := foldl_len (fun o x => fre x (b ++ c.params) o) wC (c.kids.take k) (fun y _ o => fre_len y _ o) (fre0 c b S)
  have g2 := fre0_len c b S
  have g3 := sumBy_takeLe wC c.kids (k + 1)
  have g4 := wC_eq c
  with_reducible repeat' (first | apply And.intro | exact flatI | exact flatS | exact rowLens | exact ih | (intro; skip) | apply obsN | apply obsC | apply obA | apply obM | apply obB | apply svA | apply tupA | apply lcA | apply lcS | apply svC | apply liC | apply lbC | apply lsC | apply vIc | apply vBc | apply vSc | apply vLc | apply mapC | apply mIc | apply mOc | apply mSc | apply mLc | apply Hc_freeIn_sLa | apply Ec_freeIn_sLa | apply Hc_freeIn_sLb | apply Ec_freeIn_sLb | apply Hc_freeIn_sLc | apply Ec_freeIn_sLc | apply Sc_freeIn_sLc | apply EW0c_freeIn_sLa | apply EW0c_freeIn_sLb | apply EW0c_freeIn_sLc | apply c_addNum | apply ih)
  all_goals (try simp only [std] at *)
  all_goals (try (first | with_reducible rfl | omega | assumption | (refine (decide_eq_true ?_).symm; assumption) | (refine (decide_eq_false ?_).symm; assumption) | (refine rowGet ?_; (first | omega | (simp only [std]; omega) | grind)) | (refine getC ?_ rfl; (first | omega | (simp only [std]; omega) | grind)) | exact look_mI | exact look_mO | exact look_mO1 | exact look_mS | exact look_mL | exact upd_mI | exact upd_mO | exact del_mO | exact upd_mS | exact take_mL | (refine upd_mL ?_; grind) | (refine fill_step ?_ ?_; (first | omega | (simp only [std]; omega) | grind); (first | rfl | exact (Row.eq _).trans rfl)) | (refine fill_init ?_; (first | rfl | exact (Row.eq _).trans rfl)) | grind [fre_eq, foldl_step, getD_mem', sumBy_step, snocI, snocS, rowSnoc]))
theorem Sc_freeIn_sLa (c : Core) (b : List Int) (S : List Int) (h : List.length b + List.length S + wC c + 1 ≤ 2147483647) (ih : ∀ (z : Core), z ∈ Core.kids c → ∀ (b S : List Int),
 List.length b + List.length S + wC z + 1 ≤ 2147483647 → P_c_freeIn z b S)  : LoopSem Try.prog (loopAt Try.f189 0) (Ic_freeIn_sLa c b S) (Yc_freeIn_sLa c b S) := by
  refine LoopSem.ofHead wide fun k h => ⟨_, _, run_c_freeIn_sLa c b S k, ?_⟩
  have g := fun L n => (cntI_le (b := L) (n := n)).2
  have g' := fun L n => (cntI_le (b := L) (n := n)).1
  have g4 := wC_eq c
  with_reducible repeat' (first | apply And.intro | exact flatI | exact flatS | exact rowLens | exact ih | (intro; skip) | apply obsN | apply obsC | apply obA | apply obM | apply obB | apply svA | apply tupA | apply lcA | apply lcS | apply svC | apply liC | apply lbC | apply lsC | apply vIc | apply vBc | apply vSc | apply vLc | apply mapC | apply mIc | apply mOc | apply mSc | apply mLc | apply Hc_freeIn_sLa | apply Ec_freeIn_sLa | apply Hc_freeIn_sLb | apply Ec_freeIn_sLb | apply Hc_freeIn_sLc | apply Ec_freeIn_sLc | apply Sc_freeIn_sLb | apply Sc_freeIn_sLc | apply EW0c_freeIn_sLa | apply EW0c_freeIn_sLb | apply EW0c_freeIn_sLc | apply c_addNum)
  all_goals (try simp only [std] at *)
  all_goals (try (first | with_reducible rfl | omega | assumption | (refine (decide_eq_true ?_).symm; assumption) | (refine (decide_eq_false ?_).symm; assumption) | (refine rowGet ?_; (first | omega | (simp only [std]; omega) | grind)) | (refine getC ?_ rfl; (first | omega | (simp only [std]; omega) | grind)) | exact look_mI | exact look_mO | exact look_mO1 | exact look_mS | exact look_mL | exact upd_mI | exact upd_mO | exact del_mO | exact upd_mS | exact take_mL | (refine upd_mL ?_; grind) | (refine fill_step ?_ ?_; (first | omega | (simp only [std]; omega) | grind); (first | rfl | exact (Row.eq _).trans rfl)) | (refine fill_init ?_; (first | rfl | exact (Row.eq _).trans rfl)) | grind [cntI_inc, take_get, snocI, snocS, rowSnoc]))
abbrev a1_c_freeIn_s (c : Core) (b : List Int) (S : List Int) := (True → List.length (List.map coreC (Core.kids c)) ≤ 9223372036854775807 → Tc_freeIn_sLb c b S (li 0) (Ob.arr true
 1 (List.map intC (fre0 c b S))) (Ob.map (decide (fre0 c b S = [])) kI (mI (memI (fre0 c b S)))) = Lc_freeIn_sLb c b S 0 ∧ Ic_freeIn_sLb c b S (List.length (Core.kids c) - 0)
 (Lc_freeIn_sLb c b S 0) ∧ LoopSem Try.prog (loopAt Try.f189 1) (Ic_freeIn_sLb c b S) (Yc_freeIn_sLb c b S) ∧ (True → List.length (List.map intC (Core.params c)) ≤
 9223372036854775807 → Tc_freeIn_sLc c b S (li 0) (Ob.map false kI (mI (cntI (b ++ Core.params c)))) = Lc_freeIn_sLc c b S 0 ∧ Ic_freeIn_sLc c b S (List.length (Core.params c) - 0)
 (Lc_freeIn_sLc c b S 0) ∧ LoopSem Try.prog (loopAt Try.f189 2) (Ic_freeIn_sLc c b S) (Yc_freeIn_sLc c b S) ∧ (True → ObsEq [Ob.map false kI (mI (cntI b)), Ob.box [AC.ref 4,
 AC.mref 5], Ob.dead, Ob.dead, Ob.arr true 1 (List.map intC (fre c b S)), Ob.map (decide (fre c b S = [])) kI (mI (memI (fre c b S)))] [Ob.map false kI (mI (cntI b)), Ob.box
 [AC.ref 4, AC.mref 5], Ob.dead, Ob.dead, Ob.arr true 1 (List.map intC (fre c b S)), Ob.map (decide (fre c b S = [])) kI (mI (memI (fre c b S)))] ∧ AV.tup [] = AV.tup []) ∧ True) ∧
 True)
abbrev a2_c_freeIn_s (c : Core) (b : List Int) (S : List Int) := [(True, AEx.exit 0, W0c_freeIn_sLa c b S (Ob.map false kI (mI (cntI (b ++ Core.params c)))) (Ob.arr true 1
 (List.map intC (fre0 c b S))) (Ob.map (decide (fre0 c b S = [])) kI (mI (memI (fre0 c b S)))), [Orc.ghost (Ghost.sel [0, 1, 2, 3, 4, 5, 6] [1, 2, 3, 44, 45, 46]), Orc.loop
 (List.length (Core.kids c) - 0) (Lc_freeIn_sLb c b S 0) (Ic_freeIn_sLb c b S) [(True, AEx.exit 2, W0c_freeIn_sLb c b S (Ob.arr true 1 (List.map intC (fre c b S))) (Ob.map (decide
 (fre c b S = [])) kI (mI (memI (fre c b S)))), [Orc.ghost (Ghost.sel [0, 1, 2, 3, 5, 6] [1, 56, 57, 58]), Orc.loop (List.length (Core.params c) - 0) (Lc_freeIn_sLc c b S 0)
 (Ic_freeIn_sLc c b S) [(True, AEx.exit 4, W0c_freeIn_sLc c b S (Ob.map false kI (mI (cntI b))), [Orc.fin [4, 5]])]])]])]
abbrev a3_c_freeIn_s (c : Core) (b : List Int) (S : List Int) := (decide (cntI b (Core.number c) = 0) = true → P_c_addNum S (Core.number c) ∧ (List.length (List.map intC
 (Core.params c)) ≤ 9223372036854775807 → Tc_freeIn_sLa c b S (li 0) (Ob.map false kI (mI (cntI b))) (Ob.arr true 1 (List.map intC (addU S (Core.number c)))) (Ob.map (decide (addU
 S (Core.number c) = [])) kI (mI (memI (addU S (Core.number c))))) = Lc_freeIn_sLa c b S 0 ∧ Ic_freeIn_sLa c b S (List.length (Core.params c) - 0) (Lc_freeIn_sLa c b S 0) ∧ LoopSem
 Try.prog (loopAt Try.f189 0) (Ic_freeIn_sLa c b S) (Yc_freeIn_sLa c b S) ∧ (a1_c_freeIn_s c b S) ∧ True))
abbrev a4_c_freeIn_s (c : Core) (b : List Int) (S : List Int) := [Orc.call [Mode.ptr, Mode.rd] [Ob.box [AC.ref 3, AC.mref 4], Ob.dead, Ob.dead, Ob.arr true 1 (List.map intC (addU S
 (Core.number c))), Ob.map (decide (addU S (Core.number c) = [])) kI (mI (memI (addU S (Core.number c))))] (AV.tup []), Orc.ghost (Ghost.sel [0, 1, 2, 3, 4, 8, 9] [1, 2, 3, 32, 33,
 34]), Orc.loop (List.length (Core.params c) - 0) (Lc_freeIn_sLa c b S 0) (Ic_freeIn_sLa c b S) (a2_c_freeIn_s c b S)]
abbrev a5_c_freeIn_s (c : Core) (b : List Int) (S : List Int) := (decide (cntI b (Core.number c) = 0) = false → List.length (List.map intC (Core.params c)) ≤ 9223372036854775807 →
 Tc_freeIn_sLa c b S (li 0) (Ob.map false kI (mI (cntI b))) (Ob.arr true 1 (List.map intC S)) (Ob.map (decide (S = [])) kI (mI (memI S))) = Lc_freeIn_sLa c b S 0 ∧ Ic_freeIn_sLa c
 b S (List.length (Core.params c) - 0) (Lc_freeIn_sLa c b S 0) ∧ LoopSem Try.prog (loopAt Try.f189 0) (Ic_freeIn_sLa c b S) (Yc_freeIn_sLa c b S) ∧ (a1_c_freeIn_s c b S) ∧ True)
abbrev a6_c_freeIn_s (c : Core) (b : List Int) (S : List Int) := [Orc.ghost (Ghost.move 2), Orc.ghost (Ghost.move 3), Orc.ghost (Ghost.sel [0, 1, 2, 3, 4, 5, 6] [1, 2, 3, 32, 33,
 34]), Orc.loop (List.length (Core.params c) - 0) (Lc_freeIn_sLa c b S 0) (Ic_freeIn_sLa c b S) (a2_c_freeIn_s c b S)]
theorem run_c_freeIn_s (c : Core) (b : List Int) (S : List Int) : aexec Try.prog (Option.getD (Func.body Try.f189) Code.skip) (entry [Ob.map false kI (mI (cntI b)), Ob.box [AC.ref
 2, AC.mref 3], Ob.arr true 1 (List.map intC S), Ob.map (decide (S = [])) kI (mI (memI S))] [coreA c, SV.one (AC.mref 0), SV.one (AC.ptr 1 0)] 67) [Orc.br [Orc.bool true, Orc.cells
 [cI (cntI b (Core.number c))], Orc.br (a4_c_freeIn_s c b S) (a6_c_freeIn_s c b S)] [Orc.br [Orc.cells [cI (cntI b (Core.number c))], Orc.br (a4_c_freeIn_s c b S) (a6_c_freeIn_s c
 b S)] [Orc.bool false, Orc.ghost (Ghost.move 2), Orc.ghost (Ghost.move 3), Orc.ghost (Ghost.sel [0, 1, 2, 3, 4, 5, 6] [1, 2, 3, 32, 33, 34]), Orc.loop (List.length (Core.params c)
 - 0) (Lc_freeIn_sLa c b S 0) (Ic_freeIn_sLa c b S) (a2_c_freeIn_s c b S)]]] (finK Try.prog [] [Ob.map false kI (mI (cntI b)), Ob.box [AC.ref 4, AC.mref 5], Ob.dead, Ob.dead,
 Ob.arr true 1 (List.map intC (fre c b S)), Ob.map (decide (fre c b S = [])) kI (mI (memI (fre c b S)))] (AV.tup [])) = ((decide (Core.kind c = 2) = true → true = true ∧ LookAt
 (Value.int IntKind.i64 0) (mI (cntI b)) (Value.int IntKind.i64 (Core.number c)) (cI (cntI b (Core.number c))) ∧ (a3_c_freeIn_s c b S) ∧ (a5_c_freeIn_s c b S)) ∧ (decide (Core.kind
 c = 2) = false → (decide (Core.kind c = 4) = true → LookAt (Value.int IntKind.i64 0) (mI (cntI b)) (Value.int IntKind.i64 (Core.number c)) (cI (cntI b (Core.number c))) ∧
 (a3_c_freeIn_s c b S) ∧ (a5_c_freeIn_s c b S)) ∧ (decide (Core.kind c = 4) = false → false = false ∧ (List.length (List.map intC (Core.params c)) ≤ 9223372036854775807 →
 Tc_freeIn_sLa c b S (li 0) (Ob.map false kI (mI (cntI b))) (Ob.arr true 1 (List.map intC S)) (Ob.map (decide (S = [])) kI (mI (memI S))) = Lc_freeIn_sLa c b S 0 ∧ Ic_freeIn_sLa c
 b S (List.length (Core.params c) - 0) (Lc_freeIn_sLa c b S 0) ∧ LoopSem Try.prog (loopAt Try.f189 0) (Ic_freeIn_sLa c b S) (Yc_freeIn_sLa c b S) ∧ (a1_c_freeIn_s c b S) ∧ True))))
 := by kernel_rfl
theorem c_freeIn_s (c : Core) (b S : List Int) (h : b.length + S.length + wC c + 1 ≤ 2147483647) (ih : ∀ z ∈ c.kids, ∀ (b : List Int) (S : List Int) (h : b.length + S.length + wC z
 + 1 ≤ 2147483647), P_c_freeIn z b S)  : P_c_freeIn c b S := by
  refine CallOK.ofRun wide (run_c_freeIn_s c b S) Try.call189 Try.func189 rfl rfl rfl ?_
  try delta a1_c_freeIn_s a2_c_freeIn_s a3_c_freeIn_s a4_c_freeIn_s a5_c_freeIn_s a6_c_freeIn_s
  with_reducible repeat' (first | apply And.intro | exact flatI | exact flatS | exact rowLens | exact ih | (intro; skip) | apply obsN | apply obsC | apply obA | apply obM | apply obB | apply svA | apply tupA | apply lcA | apply lcS | apply svC | apply liC | apply lbC | apply lsC | apply vIc | apply vBc | apply vSc | apply vLc | apply mapC | apply mIc | apply mOc | apply mSc | apply mLc | apply Hc_freeIn_sLa | apply Ec_freeIn_sLa | apply Sc_freeIn_sLa | apply Hc_freeIn_sLb | apply Ec_freeIn_sLb | apply Sc_freeIn_sLb | apply Hc_freeIn_sLc | apply Ec_freeIn_sLc | apply Sc_freeIn_sLc | apply EW0c_freeIn_sLa | apply EW0c_freeIn_sLb | apply EW0c_freeIn_sLc | apply c_addNum)
  all_goals (try simp only [std] at *)
  all_goals (try (first | with_reducible rfl | omega | assumption | (refine (decide_eq_true ?_).symm; assumption) | (refine (decide_eq_false ?_).symm; assumption) | (refine rowGet ?_; (first | omega | (simp only [std]; omega) | grind)) | (refine getC ?_ rfl; (first | omega | (simp only [std]; omega) | grind)) | exact look_mI | exact look_mO | exact look_mO1 | exact look_mS | exact look_mL | exact upd_mI | exact upd_mO | exact del_mO | exact upd_mS | exact take_mL | (refine upd_mL ?_; grind) | (refine fill_step ?_ ?_; (first | omega | (simp only [std]; omega) | grind); (first | rfl | exact (Row.eq _).trans rfl)) | (refine fill_init ?_; (first | rfl | exact (Row.eq _).trans rfl)) | grind [cntI_zero, fre0, snocI, snocS, rowSnoc]))
theorem c_freeIn (c : Core) : ∀ (b : List Int) (S : List Int) (h : b.length + S.length + wC c + 1 ≤ 2147483647), P_c_freeIn c b S := Core.ind (P := fun c => ∀ (b : List Int) (S : List Int) (h : b.length + S.length + wC c + 1 ≤ 2147483647), P_c_freeIn c b S) (fun c ih b S h => c_freeIn_s c b S h ih) c
abbrev P_c_sHas (L : List Int) (n : Int) : Prop := CallOK Try.prog 166 [] [ll (L.map intC), li n] [] (.sv (lb (decide (n ∈ L))))
def Tc_sHasLa (L : List Int) (n : Int) (x0 : SV) : St := St.mk (regsOf 17 [(1, AV.sv (li n)), (7, AV.sv (ll (List.map intC L))), (8, AV.sv (li (↑(List.length (List.map intC L)) :
 Int))), (9, AV.sv x0)]) [] 0 
def Lc_sHasLa (L : List Int) (n : Int) (k : Nat) : St := Tc_sHasLa L n (li (↑k : Int)) 
def Ic_sHasLa (L : List Int) (n : Int) : Nat → St → Prop := Head (Lc_sHasLa L n) (fun k => k ≤ List.length L ∧ List.length L ≤ 9223372036854775807 ∧ ¬n ∈ List.take k L) fun k =>
 List.length L - k 
def W0c_sHasLa (L : List Int) (n : Int) : St := St.mk (regsOf 17 []) [] 0 
def W1c_sHasLa (L : List Int) (n : Int) (x0 : SV) : St := St.mk (regsOf 17 [(4, AV.sv x0)]) [] 0 
def Yc_sHasLa (L : List Int) (n : Int) : List (Prop × AEx × St) := [(¬n ∈ L, AEx.exit 0, W0c_sHasLa L n), (n ∈ L, AEx.ret, W1c_sHasLa L n (lb true))]
theorem Hc_sHasLa {L : List Int} {n : Int} {k : Nat} {m : Nat} (h : (fun k => k ≤ List.length L ∧ List.length L ≤ 9223372036854775807 ∧ ¬n ∈ List.take k L) k) (hm : (fun k =>
 List.length L - k) k = m) : Ic_sHasLa L n m (Lc_sHasLa L n k) := hm ▸ Head.mk h
theorem Ec_sHasLa {L : List Int} {n : Int} {k : Nat} {x0 : SV} (h0 : x0 = (li (↑k : Int))) : Tc_sHasLa L n x0 = Lc_sHasLa L n k := by
  rw [h0]
  rfl
theorem EW1c_sHasLa {L : List Int} {n : Int} {x0 y0 : SV} (h0 : x0 = y0) : W1c_sHasLa L n x0 = W1c_sHasLa L n y0 := by rw [h0]
theorem run_c_sHasLa (L : List Int) (n : Int) (k : Nat) : aexec Try.prog (loopAt Try.f166 0) (Lc_sHasLa L n k) [Orc.br [Orc.cells (intC (List.getD L k default)), Orc.br [Orc.ghost
 (Ghost.sel [] [4]), Orc.out 1] [Orc.ghost (Ghost.sel [] [1, 7, 8, 9]), Orc.goto (List.length L - (k + 1)) (Lc_sHasLa L n (k + 1))]] [Orc.ghost (Ghost.sel [] []), Orc.out 0]]
 (loopK (Ic_sHasLa L n) (Yc_sHasLa L n) (List.length L - k)) = ((decide ((↑k : Int) < (↑(List.length (List.map intC L)) : Int)) = true → (0 ≤ (↑k : Int) ∧ (List.map intC
 L)[Int.toNat (↑k : Int)]? = some [cI (List.getD L k 0)]) ∧ (decide (List.getD L k 0 = n) = true → n ∈ L ∧ W1c_sHasLa L n (lb true) = W1c_sHasLa L n (lb true)) ∧ (decide (List.getD
 L k 0 = n) = false → rng IntKind.i64 ((↑k : Int) + 1) ∧ List.length L - (k + 1) < List.length L - k ∧ Tc_sHasLa L n (li ((↑k : Int) + 1)) = Lc_sHasLa L n (k + 1) ∧ Ic_sHasLa L n
 (List.length L - (k + 1)) (Lc_sHasLa L n (k + 1)))) ∧ (decide ((↑k : Int) < (↑(List.length (List.map intC L)) : Int)) = false → ¬n ∈ L ∧ W0c_sHasLa L n = W0c_sHasLa L n)) := by
 kernel_rfl
theorem Sc_sHasLa (L : List Int) (n : Int)  : LoopSem Try.prog (loopAt Try.f166 0) (Ic_sHasLa L n) (Yc_sHasLa L n) := by
  refine LoopSem.ofHead wide fun k h => ⟨_, _, run_c_sHasLa L n k, ?_⟩
  with_reducible repeat' (first | apply And.intro | exact flatI | exact flatS | exact rowLens | (intro; skip) | apply obsN | apply obsC | apply obA | apply obM | apply obB | apply svA | apply tupA | apply lcA | apply lcS | apply svC | apply liC | apply lbC | apply lsC | apply vIc | apply vBc | apply vSc | apply vLc | apply mapC | apply mIc | apply mOc | apply mSc | apply mLc | apply Hc_sHasLa | apply Ec_sHasLa | apply EW1c_sHasLa)
  all_goals (try simp only [std] at *)
  all_goals (try (first | with_reducible rfl | omega | assumption | (refine (decide_eq_true ?_).symm; assumption) | (refine (decide_eq_false ?_).symm; assumption) | (refine rowGet ?_; (first | omega | (simp only [std]; omega) | grind)) | (refine getC ?_ rfl; (first | omega | (simp only [std]; omega) | grind)) | exact look_mI | exact look_mO | exact look_mO1 | exact look_mS | exact look_mL | exact upd_mI | exact upd_mO | exact del_mO | exact upd_mS | exact take_mL | (refine upd_mL ?_; grind) | (refine fill_step ?_ ?_; (first | omega | (simp only [std]; omega) | grind); (first | rfl | exact (Row.eq _).trans rfl)) | (refine fill_init ?_; (first | rfl | exact (Row.eq _).trans rfl)) | grind [take_get, getD_mem', snocI, snocS, rowSnoc]))
theorem run_c_sHas (L : List Int) (n : Int) : aexec Try.prog (Option.getD (Func.body Try.f166) Code.skip) (entry [] [ll (List.map intC L), li n] 17) [Orc.ghost (Ghost.sel [] [1, 7,
 8, 9]), Orc.loop (List.length L - 0) (Lc_sHasLa L n 0) (Ic_sHasLa L n) [(¬n ∈ L, AEx.exit 0, W0c_sHasLa L n, [Orc.fin []]), (n ∈ L, AEx.ret, W1c_sHasLa L n (lb true), [Orc.fin
 []])]] (finK Try.prog [ResultVar.tmp 4] [] (AV.sv (lb (decide (n ∈ L))))) = (List.length (List.map intC L) ≤ 9223372036854775807 → Tc_sHasLa L n (li 0) = Lc_sHasLa L n 0 ∧
 Ic_sHasLa L n (List.length L - 0) (Lc_sHasLa L n 0) ∧ LoopSem Try.prog (loopAt Try.f166 0) (Ic_sHasLa L n) (Yc_sHasLa L n) ∧ ((n ∈ L → False) → ObsEq [] [] ∧ AV.sv (lb false) =
 AV.sv (lb (decide (n ∈ L)))) ∧ (List.Mem n L → ObsEq [] [] ∧ AV.sv (lb true) = AV.sv (lb (decide (n ∈ L)))) ∧ True) := by kernel_rfl
theorem c_sHas (L : List Int) (n : Int)  : P_c_sHas L n := by
  refine CallOK.ofRun wide (run_c_sHas L n) Try.call166 Try.func166 rfl rfl rfl ?_
  with_reducible repeat' (first | apply And.intro | exact flatI | exact flatS | exact rowLens | (intro; skip) | apply obsN | apply obsC | apply obA | apply obM | apply obB | apply svA | apply tupA | apply lcA | apply lcS | apply svC | apply liC | apply lbC | apply lsC | apply vIc | apply vBc | apply vSc | apply vLc | apply mapC | apply mIc | apply mOc | apply mSc | apply mLc | apply Hc_sHasLa | apply Ec_sHasLa | apply Sc_sHasLa | apply EW1c_sHasLa)
  all_goals (try simp only [std] at *)
  all_goals (try (first | with_reducible rfl | omega | assumption | (refine (decide_eq_true ?_).symm; assumption) | (refine (decide_eq_false ?_).symm; assumption) | (refine rowGet ?_; (first | omega | (simp only [std]; omega) | grind)) | (refine getC ?_ rfl; (first | omega | (simp only [std]; omega) | grind)) | exact look_mI | exact look_mO | exact look_mO1 | exact look_mS | exact look_mL | exact upd_mI | exact upd_mO | exact del_mO | exact upd_mS | exact take_mL | (refine upd_mL ?_; grind) | (refine fill_step ?_ ?_; (first | omega | (simp only [std]; omega) | grind); (first | rfl | exact (Row.eq _).trans rfl)) | (refine fill_init ?_; (first | rfl | exact (Row.eq _).trans rfl)) | grind [snocI, snocS, rowSnoc]))
abbrev P_c_l2Ints (L : List Int) : Prop := CallOK Try.prog 164 [] [ll (L.map intC)] [.arr true 1 (L.map intC)] (.sv (.one (.ref 0)))
theorem run_c_l2Ints (L : List Int) : aexec Try.prog (Option.getD (Func.body Try.f164) Code.skip) (entry [] [ll (List.map intC L)] 6) [Orc.fin [1]] (finK Try.prog [ResultVar.tmp 2]
 [Ob.arr true 1 (List.map intC L)] (AV.sv (SV.one (AC.ref 0)))) = ((∀ (e : List Cell), e ∈ List.map intC L → ∀ (c : Cell), c ∈ e → ∃ v, c = Cell.lit v) ∧ (∀ (e : List Cell), e ∈
 List.map intC L → List.length e = 1) ∧ (0 + List.length (List.map intC L)) * 8 ≤ 140737488355328 ∧ ObsEq [Ob.arr true 1 (List.map intC L)] [Ob.arr true 1 (List.map intC L)] ∧
 AV.sv (SV.one (AC.ref 0)) = AV.sv (SV.one (AC.ref 0))) := by kernel_rfl
theorem c_l2Ints (L : List Int) (h : L.length ≤ 2147483647)  : P_c_l2Ints L := by
  refine CallOK.ofRun wide (run_c_l2Ints L) Try.call164 Try.func164 rfl rfl rfl ?_
  with_reducible repeat' (first | apply And.intro | exact flatI | exact flatS | exact rowLens | (intro; skip) | apply obsN | apply obsC | apply obA | apply obM | apply obB | apply svA | apply tupA | apply lcA | apply lcS | apply svC | apply liC | apply lbC | apply lsC | apply vIc | apply vBc | apply vSc | apply vLc | apply mapC | apply mIc | apply mOc | apply mSc | apply mLc)
  all_goals (try simp only [std] at *)
  all_goals (try (first | with_reducible rfl | omega | assumption | (refine (decide_eq_true ?_).symm; assumption) | (refine (decide_eq_false ?_).symm; assumption) | (refine rowGet ?_; (first | omega | (simp only [std]; omega) | grind)) | (refine getC ?_ rfl; (first | omega | (simp only [std]; omega) | grind)) | exact look_mI | exact look_mO | exact look_mO1 | exact look_mS | exact look_mL | exact upd_mI | exact upd_mO | exact del_mO | exact upd_mS | exact take_mL | (refine upd_mL ?_; grind) | (refine fill_step ?_ ?_; (first | omega | (simp only [std]; omega) | grind); (first | rfl | exact (Row.eq _).trans rfl)) | (refine fill_init ?_; (first | rfl | exact (Row.eq _).trans rfl)) | grind [snocI, snocS, rowSnoc]))
abbrev P_c_l5Names (c : Core) : Prop := CallOK Try.prog 250 [] [coreA c] [] (.sv (lb (decide (c.kind = 2 ∨ c.kind = 4))))
theorem run_c_l5Names (c : Core) : aexec Try.prog (Option.getD (Func.body Try.f250) Code.skip) (entry [] [coreA c] 11) [Orc.br [Orc.fin []] [Orc.fin []]] (finK Try.prog
 [ResultVar.tmp 2] [] (AV.sv (lb (decide (Core.kind c = 2 ∨ Core.kind c = 4))))) = ((decide (Core.kind c = 2) = true → ObsEq [] [] ∧ AV.sv (lb true) = AV.sv (lb (decide (Core.kind
 c = 2 ∨ Core.kind c = 4)))) ∧ (decide (Core.kind c = 2) = false → ObsEq [] [] ∧ AV.sv (lb (decide (Core.kind c = 4))) = AV.sv (lb (decide (Core.kind c = 2 ∨ Core.kind c = 4)))))
 := by kernel_rfl
theorem c_l5Names (c : Core)  : P_c_l5Names c := by
  refine CallOK.ofRun wide (run_c_l5Names c) Try.call250 Try.func250 rfl rfl rfl ?_
  with_reducible repeat' (first | apply And.intro | exact flatI | exact flatS | exact rowLens | (intro; skip) | apply obsN | apply obsC | apply obA | apply obM | apply obB | apply svA | apply tupA | apply lcA | apply lcS | apply svC | apply liC | apply lbC | apply lsC | apply vIc | apply vBc | apply vSc | apply vLc | apply mapC | apply mIc | apply mOc | apply mSc | apply mLc)
  all_goals (try simp only [std] at *)
  all_goals (try (first | with_reducible rfl | omega | assumption | (refine (decide_eq_true ?_).symm; assumption) | (refine (decide_eq_false ?_).symm; assumption) | (refine rowGet ?_; (first | omega | (simp only [std]; omega) | grind)) | (refine getC ?_ rfl; (first | omega | (simp only [std]; omega) | grind)) | exact look_mI | exact look_mO | exact look_mO1 | exact look_mS | exact look_mL | exact upd_mI | exact upd_mO | exact del_mO | exact upd_mS | exact take_mL | (refine upd_mL ?_; grind) | (refine fill_step ?_ ?_; (first | omega | (simp only [std]; omega) | grind); (first | rfl | exact (Row.eq _).trans rfl)) | (refine fill_init ?_; (first | rfl | exact (Row.eq _).trans rfl)) | grind [snocI, snocS, rowSnoc]))
abbrev P_c_l5Free (c : Core) (b : List Int) (S : List Int) : Prop := CallOK Try.prog 188 [.arr true 1 (S.map intC)] [coreA c, ll (b.map intC), .one (.ref 0)] [.dead, .arr true 1 ((fre c b S).map intC)] (.sv (.one (.ref 1)))
def Tc_l5Free_sLa (c : Core) (b : List Int) (S : List Int) (x0 : SV) (x1 : Ob) : St := St.mk (regsOf 48 [(1, AV.sv (SV.one (AC.ref 1))), (2, AV.sv (SV.one (AC.ref 2))), (36, AV.sv
 (ll (List.map coreC (Core.kids c)))), (37, AV.sv (li (↑(List.length (List.map coreC (Core.kids c))) : Int))), (38, AV.sv x0)]) [Ob.dead, Ob.arr true 1 (List.map intC b ++ List.map
 intC (Core.params c)), x1] 1 
def Lc_l5Free_sLa (c : Core) (b : List Int) (S : List Int) (k : Nat) : St := Tc_l5Free_sLa c b S (li (↑k : Int)) (Ob.arr true 1 (List.map intC (List.foldl (fun o x => fre x (b ++
 Core.params c) o) (fre0 c b S) (List.take k (Core.kids c))))) 
def Ic_l5Free_sLa (c : Core) (b : List Int) (S : List Int) : Nat → St → Prop := Head (Lc_l5Free_sLa c b S) (fun k => k ≤ List.length (Core.kids c) ∧ List.length (Core.kids c) ≤
 9223372036854775807) fun k => List.length (Core.kids c) - k 
def W0c_l5Free_sLa (c : Core) (b : List Int) (S : List Int) (x0 : Ob) : St := St.mk (regsOf 48 [(2, AV.sv (SV.one (AC.ref 1)))]) [Ob.dead, x0] 1 
def Yc_l5Free_sLa (c : Core) (b : List Int) (S : List Int) : List (Prop × AEx × St) := [(True, AEx.exit 0, W0c_l5Free_sLa c b S (Ob.arr true 1 (List.map intC (fre c b S))))]
theorem Hc_l5Free_sLa {c : Core} {b : List Int} {S : List Int} {k : Nat} {m : Nat} (h : (fun k => k ≤ List.length (Core.kids c) ∧ List.length (Core.kids c) ≤ 9223372036854775807)
 k) (hm : (fun k => List.length (Core.kids c) - k) k = m) : Ic_l5Free_sLa c b S m (Lc_l5Free_sLa c b S k) := hm ▸ Head.mk h
theorem Ec_l5Free_sLa {c : Core} {b : List Int} {S : List Int} {k : Nat} {x0 : SV} {x1 : Ob} (h0 : x0 = (li (↑k : Int))) (h1 : x1 = (Ob.arr true 1 (List.map intC (List.foldl (fun o
 x => fre x (b ++ Core.params c) o) (fre0 c b S) (List.take k (Core.kids c)))))) : Tc_l5Free_sLa c b S x0 x1 = Lc_l5Free_sLa c b S k := by
  rw [h0, h1]
  rfl
theorem EW0c_l5Free_sLa {c : Core} {b : List Int} {S : List Int} {x0 y0 : Ob} (h0 : x0 = y0) : W0c_l5Free_sLa c b S x0 = W0c_l5Free_sLa c b S y0 := by rw [h0]
theorem run_c_l5Free_sLa (c : Core) (b : List Int) (S : List Int) (k : Nat) : aexec Try.prog (loopAt Try.f188 0) (Lc_l5Free_sLa c b S k) [Orc.br [Orc.cells (coreF (List.getD
 (Core.kids c) k default)), Orc.call [Mode.rd, Mode.rd, Mode.own true 1] [Ob.dead, Ob.arr true 1 (List.map intC (fre (List.getD (Core.kids c) k default) (b ++ Core.params c)
 (List.foldl (fun o x => fre x (b ++ Core.params c) o) (fre0 c b S) (List.take k (Core.kids c)))))] (AV.sv (SV.one (AC.ref 1))), Orc.ghost (Ghost.sel [0, 1, 5] [1, 2, 36, 37, 38]),
 Orc.goto (List.length (Core.kids c) - (k + 1)) (Lc_l5Free_sLa c b S (k + 1))] [Orc.ghost (Ghost.sel [0, 2] [2]), Orc.out 0]] (loopK (Ic_l5Free_sLa c b S) (Yc_l5Free_sLa c b S)
 (List.length (Core.kids c) - k)) = ((decide ((↑k : Int) < (↑(List.length (List.map coreC (Core.kids c))) : Int)) = true → (0 ≤ (↑k : Int) ∧ (List.map coreC (Core.kids
 c))[Int.toNat (↑k : Int)]? = some (coreF (List.getD (Core.kids c) k default))) ∧ CallOK Try.prog 188 [Ob.arr true 1 (List.map intC (List.foldl (fun o x => fre x (b ++ Core.params
 c) o) (fre0 c b S) (List.take k (Core.kids c))))] [SV.agg (vals (coreF (List.getD (Core.kids c) k default))), ll (List.map intC b ++ List.map intC (Core.params c)), SV.one (AC.ref
 0)] [Ob.dead, Ob.arr true 1 (List.map intC (fre (List.getD (Core.kids c) k default) (b ++ Core.params c) (List.foldl (fun o x => fre x (b ++ Core.params c) o) (fre0 c b S)
 (List.take k (Core.kids c)))))] (AV.sv (SV.one (AC.ref 1))) ∧ rng IntKind.i64 ((↑k : Int) + 1) ∧ List.length (Core.kids c) - (k + 1) < List.length (Core.kids c) - k ∧
 Tc_l5Free_sLa c b S (li ((↑k : Int) + 1)) (Ob.arr true 1 (List.map intC (fre (List.getD (Core.kids c) k default) (b ++ Core.params c) (List.foldl (fun o x => fre x (b ++
 Core.params c) o) (fre0 c b S) (List.take k (Core.kids c)))))) = Lc_l5Free_sLa c b S (k + 1) ∧ Ic_l5Free_sLa c b S (List.length (Core.kids c) - (k + 1)) (Lc_l5Free_sLa c b S (k +
 1))) ∧ (decide ((↑k : Int) < (↑(List.length (List.map coreC (Core.kids c))) : Int)) = false → True ∧ W0c_l5Free_sLa c b S (Ob.arr true 1 (List.map intC (List.foldl (fun o x => fre
 x (b ++ Core.params c) o) (fre0 c b S) (List.take k (Core.kids c))))) = W0c_l5Free_sLa c b S (Ob.arr true 1 (List.map intC (fre c b S))))) := by kernel_rfl
theorem Sc_l5Free_sLa (c : Core) (b : List Int) (S : List Int) (h : List.length b + List.length S + wC c + 1 ≤ 2147483647) (ih : ∀ (z : Core), z ∈ Core.kids c → ∀ (b S : List Int),
 List.length b + List.length S + wC z + 1 ≤ 2147483647 → P_c_l5Free z b S)  : LoopSem Try.prog (loopAt Try.f188 0) (Ic_l5Free_sLa c b S) (Yc_l5Free_sLa c b S) := by
  refine LoopSem.ofHead wide fun k h => ⟨_, _, run_c_l5Free_sLa c b S k, ?_⟩
  have g1 := foldl_len (fun o x => fre x (b ++ c.params) o) wC (c.kids.take k) (fun y _ o => fre_len y _ o) (fre0 c b S)
  have g2 := fre0_len c b S
  have g3 := sumBy_takeLe wC c.kids (k + 1)
  have g4 := wC_eq c
  with_reducible repeat' (first | apply And.intro | exact flatI | exact flatS | exact rowLens | exact ih | (intro; skip) | apply obsN | apply obsC | apply obA | apply obM | apply obB | apply svA | apply tupA | apply lcA | apply lcS | apply svC | apply liC | apply lbC | apply lsC | apply vIc | apply vBc | apply vSc | apply vLc | apply mapC | apply mIc | apply mOc | apply mSc | apply mLc | apply Hc_l5Free_sLa | apply Ec_l5Free_sLa | apply EW0c_l5Free_sLa | apply c_sHas | apply c_l2Ints | apply c_l5Names | apply ih)
  all_goals (try simp only [std] at *)
  all_goals (try (first | with_reducible rfl | omega | assumption | (refine (decide_eq_true ?_).symm; assumption) | (refine (decide_eq_false ?_).symm; assumption) | (refine rowGet ?_; (first | omega | (simp only [std]; omega) | grind)) | (refine getC ?_ rfl; (first | omega | (simp only [std]; omega) | grind)) | exact look_mI | exact look_mO | exact look_mO1 | exact look_mS | exact look_mL | exact upd_mI | exact upd_mO | exact del_mO | exact upd_mS | exact take_mL | (refine upd_mL ?_; grind) | (refine fill_step ?_ ?_; (first | omega | (simp only [std]; omega) | grind); (first | rfl | exact (Row.eq _).trans rfl)) | (refine fill_init ?_; (first | rfl | exact (Row.eq _).trans rfl)) | grind [fre_eq, foldl_step, getD_mem', sumBy_step, snocI, snocS, rowSnoc]))
abbrev a1_c_l5Free_s (c : Core) (b : List Int) (S : List Int) := (List.length (List.map coreC (Core.kids c)) ≤ 9223372036854775807 → Tc_l5Free_sLa c b S (li 0) (Ob.arr true 1
 (List.map intC S)) = Lc_l5Free_sLa c b S 0 ∧ Ic_l5Free_sLa c b S (List.length (Core.kids c) - 0) (Lc_l5Free_sLa c b S 0) ∧ LoopSem Try.prog (loopAt Try.f188 0) (Ic_l5Free_sLa c b
 S) (Yc_l5Free_sLa c b S) ∧ (True → ObsEq [Ob.dead, Ob.arr true 1 (List.map intC (fre c b S))] [Ob.dead, Ob.arr true 1 (List.map intC (fre c b S))] ∧ AV.sv (SV.one (AC.ref 1)) =
 AV.sv (SV.one (AC.ref 1))) ∧ True)
abbrev a2_c_l5Free_s (c : Core) (b : List Int) (S : List Int) := [(True, AEx.exit 0, W0c_l5Free_sLa c b S (Ob.arr true 1 (List.map intC (fre c b S))), [Orc.fin [1]])]
theorem run_c_l5Free_s (c : Core) (b : List Int) (S : List Int) : aexec Try.prog (Option.getD (Func.body Try.f188) Code.skip) (entry [Ob.arr true 1 (List.map intC S)] [coreA c, ll
 (List.map intC b), SV.one (AC.ref 0)] 48) [Orc.call [Mode.rd] [] (AV.sv (lb (decide (Core.kind c = 2 ∨ Core.kind c = 4)))), Orc.br [Orc.call [Mode.rd, Mode.rd] [] (AV.sv (lb
 (decide (Core.number c ∈ b)))), Orc.br [Orc.call [Mode.rd, Mode.rd] [] (AV.sv (lb (decide (Core.number c ∈ S)))), Orc.br [Orc.draw [(4, [4])], Orc.call [Mode.rd] [Ob.arr true 1
 (List.map intC b)] (AV.sv (SV.one (AC.ref 0))), Orc.ghost (Ghost.sel [0, 12, 3] [1, 2, 36, 37, 38]), Orc.loop (List.length (Core.kids c) - 0) (Lc_l5Free_sLa c b S 0)
 (Ic_l5Free_sLa c b S) (a2_c_l5Free_s c b S)] [Orc.draw [(4, [2])], Orc.call [Mode.rd] [Ob.arr true 1 (List.map intC b)] (AV.sv (SV.one (AC.ref 0))), Orc.ghost (Ghost.move 0),
 Orc.ghost (Ghost.sel [0, 10, 11] [1, 2, 36, 37, 38]), Orc.loop (List.length (Core.kids c) - 0) (Lc_l5Free_sLa c b S 0) (Ic_l5Free_sLa c b S) (a2_c_l5Free_s c b S)]] [Orc.bool
 false, Orc.draw [(4, [2])], Orc.call [Mode.rd] [Ob.arr true 1 (List.map intC b)] (AV.sv (SV.one (AC.ref 0))), Orc.ghost (Ghost.move 0), Orc.ghost (Ghost.sel [0, 10, 11] [1, 2, 36,
 37, 38]), Orc.loop (List.length (Core.kids c) - 0) (Lc_l5Free_sLa c b S 0) (Ic_l5Free_sLa c b S) (a2_c_l5Free_s c b S)]] [Orc.bool false, Orc.bool false, Orc.draw [(4, [2])],
 Orc.call [Mode.rd] [Ob.arr true 1 (List.map intC b)] (AV.sv (SV.one (AC.ref 0))), Orc.ghost (Ghost.move 0), Orc.ghost (Ghost.sel [0, 10, 11] [1, 2, 36, 37, 38]), Orc.loop
 (List.length (Core.kids c) - 0) (Lc_l5Free_sLa c b S 0) (Ic_l5Free_sLa c b S) (a2_c_l5Free_s c b S)]] (finK Try.prog [ResultVar.tmp 6] [Ob.dead, Ob.arr true 1 (List.map intC (fre
 c b S))] (AV.sv (SV.one (AC.ref 1)))) = (P_c_l5Names c ∧ (decide (Core.kind c = 2 ∨ Core.kind c = 4) = true → P_c_sHas b (Core.number c) ∧ ((!decide (Core.number c ∈ b)) = true →
 P_c_sHas S (Core.number c) ∧ ((!decide (Core.number c ∈ S)) = true → (List.length (List.map intC S) + 1) * 8 ≤ 140737488355328 ∧ P_c_l2Ints b ∧ (∀ (e : List Cell), e ∈ List.map
 intC (Core.params c) → ∀ (c : Cell), c ∈ e → ∃ v, c = Cell.lit v) ∧ (∀ (e : List Cell), e ∈ List.map intC (Core.params c) → List.length e = 1) ∧ (List.length (List.map intC b) +
 List.length (List.map intC (Core.params c))) * 8 ≤ 140737488355328 ∧ (List.length (List.map coreC (Core.kids c)) ≤ 9223372036854775807 → Tc_l5Free_sLa c b S (li 0) (Ob.arr true 1
 (List.map intC S ++ [[cI (Core.number c)]])) = Lc_l5Free_sLa c b S 0 ∧ Ic_l5Free_sLa c b S (List.length (Core.kids c) - 0) (Lc_l5Free_sLa c b S 0) ∧ LoopSem Try.prog (loopAt
 Try.f188 0) (Ic_l5Free_sLa c b S) (Yc_l5Free_sLa c b S) ∧ (True → ObsEq [Ob.dead, Ob.arr true 1 (List.map intC (fre c b S))] [Ob.dead, Ob.arr true 1 (List.map intC (fre c b S))] ∧
 AV.sv (SV.one (AC.ref 1)) = AV.sv (SV.one (AC.ref 1))) ∧ True)) ∧ ((!decide (Core.number c ∈ S)) = false → P_c_l2Ints b ∧ (∀ (e : List Cell), e ∈ List.map intC (Core.params c) → ∀
 (c : Cell), c ∈ e → ∃ v, c = Cell.lit v) ∧ (∀ (e : List Cell), e ∈ List.map intC (Core.params c) → List.length e = 1) ∧ (List.length (List.map intC b) + List.length (List.map intC
 (Core.params c))) * 8 ≤ 140737488355328 ∧ (a1_c_l5Free_s c b S))) ∧ ((!decide (Core.number c ∈ b)) = false → false = false ∧ P_c_l2Ints b ∧ (∀ (e : List Cell), e ∈ List.map intC
 (Core.params c) → ∀ (c : Cell), c ∈ e → ∃ v, c = Cell.lit v) ∧ (∀ (e : List Cell), e ∈ List.map intC (Core.params c) → List.length e = 1) ∧ (List.length (List.map intC b) +
 List.length (List.map intC (Core.params c))) * 8 ≤ 140737488355328 ∧ (a1_c_l5Free_s c b S))) ∧ (decide (Core.kind c = 2 ∨ Core.kind c = 4) = false → false = false ∧ false = false
 ∧ P_c_l2Ints b ∧ (∀ (e : List Cell), e ∈ List.map intC (Core.params c) → ∀ (c : Cell), c ∈ e → ∃ v, c = Cell.lit v) ∧ (∀ (e : List Cell), e ∈ List.map intC (Core.params c) →
 List.length e = 1) ∧ (List.length (List.map intC b) + List.length (List.map intC (Core.params c))) * 8 ≤ 140737488355328 ∧ (a1_c_l5Free_s c b S))) := by kernel_rfl
theorem c_l5Free_s (c : Core) (b S : List Int) (h : b.length + S.length + wC c + 1 ≤ 2147483647) (ih : ∀ z ∈ c.kids, ∀ (b : List Int) (S : List Int) (h : b.length + S.length + wC z
 + 1 ≤ 2147483647), P_c_l5Free z b S)  : P_c_l5Free c b S := by
  refine CallOK.ofRun wide (run_c_l5Free_s c b S) Try.call188 Try.func188 rfl rfl rfl ?_
  try delta a1_c_l5Free_s a2_c_l5Free_s
  have g4 := wC_eq c
  with_reducible repeat' (first | apply And.intro | exact flatI | exact flatS | exact rowLens | exact ih | (intro; skip) | apply obsN | apply obsC | apply obA | apply obM | apply obB | apply svA | apply tupA | apply lcA | apply lcS | apply svC | apply liC | apply lbC | apply lsC | apply vIc | apply vBc | apply vSc | apply vLc | apply mapC | apply mIc | apply mOc | apply mSc | apply mLc | apply Hc_l5Free_sLa | apply Ec_l5Free_sLa | apply Sc_l5Free_sLa | apply EW0c_l5Free_sLa | apply c_sHas | apply c_l2Ints | apply c_l5Names)
  all_goals (try simp only [std] at *)
  all_goals (try (first | with_reducible rfl | omega | assumption | (refine (decide_eq_true ?_).symm; assumption) | (refine (decide_eq_false ?_).symm; assumption) | (refine rowGet ?_; (first | omega | (simp only [std]; omega) | grind)) | (refine getC ?_ rfl; (first | omega | (simp only [std]; omega) | grind)) | exact look_mI | exact look_mO | exact look_mO1 | exact look_mS | exact look_mL | exact upd_mI | exact upd_mO | exact del_mO | exact upd_mS | exact take_mL | (refine upd_mL ?_; grind) | (refine fill_step ?_ ?_; (first | omega | (simp only [std]; omega) | grind); (first | rfl | exact (Row.eq _).trans rfl)) | (refine fill_init ?_; (first | rfl | exact (Row.eq _).trans rfl)) | grind [fre0, addU, snocI, snocS, rowSnoc]))
theorem c_l5Free (c : Core) : ∀ (b : List Int) (S : List Int) (h : b.length + S.length + wC c + 1 ≤ 2147483647), P_c_l5Free c b S := Core.ind (P := fun c => ∀ (b : List Int) (S : List Int) (h : b.length + S.length + wC c + 1 ≤ 2147483647), P_c_l5Free c b S) (fun c ih b S h => c_l5Free_s c b S h ih) c
abbrev P_c_sFree (c : Core) : Prop := CallOK Try.prog 80 [] [coreA c] [.arr true 1 ((fre c [] []).map intC)] (.sv (.one (.ref 0)))
theorem run_c_sFree (c : Core) : aexec Try.prog (Option.getD (Func.body Try.f80) Code.skip) (entry [] [coreA c] 6) [Orc.call [Mode.rd, Mode.rd, Mode.own true 1] [Ob.dead, Ob.arr
 true 1 (List.map intC (fre c [] []))] (AV.sv (SV.one (AC.ref 1))), Orc.fin [3]] (finK Try.prog [ResultVar.tmp 2] [Ob.arr true 1 (List.map intC (fre c [] []))] (AV.sv (SV.one
 (AC.ref 0)))) = (P_c_l5Free c [] [] ∧ ObsEq [Ob.arr true 1 (List.map intC (fre c [] []))] [Ob.arr true 1 (List.map intC (fre c [] []))] ∧ AV.sv (SV.one (AC.ref 0)) = AV.sv (SV.one
 (AC.ref 0))) := by kernel_rfl
theorem c_sFree (c : Core) (h : wC c ≤ 2147483600)  : P_c_sFree c := by
  refine CallOK.ofRun wide (run_c_sFree c) Try.call80 Try.func80 rfl rfl rfl ?_
  with_reducible repeat' (first | apply And.intro | exact flatI | exact flatS | exact rowLens | (intro; skip) | apply obsN | apply obsC | apply obA | apply obM | apply obB | apply svA | apply tupA | apply lcA | apply lcS | apply svC | apply liC | apply lbC | apply lsC | apply vIc | apply vBc | apply vSc | apply vLc | apply mapC | apply mIc | apply mOc | apply mSc | apply mLc | apply c_l5Free)
  all_goals (try simp only [std] at *)
  all_goals (try (first | with_reducible rfl | omega | assumption | (refine (decide_eq_true ?_).symm; assumption) | (refine (decide_eq_false ?_).symm; assumption) | (refine rowGet ?_; (first | omega | (simp only [std]; omega) | grind)) | (refine getC ?_ rfl; (first | omega | (simp only [std]; omega) | grind)) | exact look_mI | exact look_mO | exact look_mO1 | exact look_mS | exact look_mL | exact upd_mI | exact upd_mO | exact del_mO | exact upd_mS | exact take_mL | (refine upd_mL ?_; grind) | (refine fill_step ?_ ?_; (first | omega | (simp only [std]; omega) | grind); (first | rfl | exact (Row.eq _).trans rfl)) | (refine fill_init ?_; (first | rfl | exact (Row.eq _).trans rfl)) | grind [snocI, snocS, rowSnoc]))
abbrev P_c_iFree (c : Core) : Prop := CallOK Try.prog 82 [] [coreA c] [.arr true 1 ((fre c [] []).map intC)] (.sv (.one (.ref 0)))
theorem run_c_iFree (c : Core) : aexec Try.prog (Option.getD (Func.body Try.f82) Code.skip) (entry [] [coreA c] 9) [Orc.mkmap kI, Orc.ghost (Ghost.nilbox 1 0 true 1), Orc.ghost
 (Ghost.nilmbox 1 1 kI), Orc.call [Mode.rd, Mode.map, Mode.ptr] [Ob.map false kI (mI (cntI [])), Ob.box [AC.ref 4, AC.mref 5], Ob.dead, Ob.dead, Ob.arr true 1 (List.map intC (fre c
 [] [])), Ob.map (decide (fre c [] [] = [])) kI (mI (memI (fre c [] [])))] (AV.tup []), Orc.fin [9]] (finK Try.prog [ResultVar.tmp 2] [Ob.arr true 1 (List.map intC (fre c [] []))]
 (AV.sv (SV.one (AC.ref 0)))) = (P_c_freeIn c [] [] ∧ ObsEq [Ob.arr true 1 (List.map intC (fre c [] []))] [Ob.arr true 1 (List.map intC (fre c [] []))] ∧ AV.sv (SV.one (AC.ref 0))
 = AV.sv (SV.one (AC.ref 0))) := by kernel_rfl
theorem c_iFree (c : Core) (h : wC c ≤ 2147483600)  : P_c_iFree c := by
  refine CallOK.ofRun wide (run_c_iFree c) Try.call82 Try.func82 rfl rfl rfl ?_
  with_reducible repeat' (first | apply And.intro | exact flatI | exact flatS | exact rowLens | (intro; skip) | apply obsN | apply obsC | apply obA | apply obM | apply obB | apply svA | apply tupA | apply lcA | apply lcS | apply svC | apply liC | apply lbC | apply lsC | apply vIc | apply vBc | apply vSc | apply vLc | apply mapC | apply mIc | apply mOc | apply mSc | apply mLc | apply c_freeIn)
  all_goals (try simp only [std] at *)
  all_goals (try (first | with_reducible rfl | omega | assumption | (refine (decide_eq_true ?_).symm; assumption) | (refine (decide_eq_false ?_).symm; assumption) | (refine rowGet ?_; (first | omega | (simp only [std]; omega) | grind)) | (refine getC ?_ rfl; (first | omega | (simp only [std]; omega) | grind)) | exact look_mI | exact look_mO | exact look_mO1 | exact look_mS | exact look_mL | exact upd_mI | exact upd_mO | exact del_mO | exact upd_mS | exact take_mL | (refine upd_mL ?_; grind) | (refine fill_step ?_ ?_; (first | omega | (simp only [std]; omega) | grind); (first | rfl | exact (Row.eq _).trans rfl)) | (refine fill_init ?_; (first | rfl | exact (Row.eq _).trans rfl)) | grind [snocI, snocS, rowSnoc]))
end Go.Proofs.Ytehpjofddjmbpaa
end
section
namespace Go.Proofs.Ytehpjofddjmbpaa
open Go Go.Proofs.Ytehpjofddjmbpaa.Ab
set_option linter.unusedVariables false
set_option linter.unusedSimpArgs false
set_option maxHeartbeats 4000000
def primNames : List ByteArray := [mkS [43], mkS [45], mkS [42], mkS [61], mkS [60], mkS [99, 111, 110, 115], mkS [99, 97, 114], mkS [99, 100, 114], mkS [110, 117, 108, 108, 63], mkS [112, 97, 105, 114, 63], mkS [110, 117, 109, 98, 101, 114, 63], mkS [101, 113, 63], mkS [110, 111, 116], mkS [100, 105, 115, 112, 108, 97, 121]]
abbrev P_c_sPrimitiveNames  : Prop := CallOK Try.prog 212 [] [] [.arr true 1 (primNames.map strC)] (.sv (.one (.ref 0)))
theorem run_c_sPrimitiveNames : aexec Try.prog (Option.getD (Func.body Try.f212) Code.skip) (entry [] [] 2) [Orc.fin [0]] (finK Try.prog [ResultVar.tmp 0] [Ob.arr true 1 (List.map
 strC primNames)] (AV.sv (SV.one (AC.ref 0)))) = (ObsEq [Ob.arr true 1 [[cS (ByteArray.mk #[(43 : UInt8)])], [cS (ByteArray.mk #[(45 : UInt8)])], [cS (ByteArray.mk #[(42 :
 UInt8)])], [cS (ByteArray.mk #[(61 : UInt8)])], [cS (ByteArray.mk #[(60 : UInt8)])], [cS (ByteArray.mk #[(99 : UInt8), (111 : UInt8), (110 : UInt8), (115 : UInt8)])], [cS
 (ByteArray.mk #[(99 : UInt8), (97 : UInt8), (114 : UInt8)])], [cS (ByteArray.mk #[(99 : UInt8), (100 : UInt8), (114 : UInt8)])], [cS (ByteArray.mk #[(110 : UInt8), (117 : UInt8),
 (108 : UInt8), (108 : UInt8), (63 : UInt8)])], [cS (ByteArray.mk #[(112 : UInt8), (97 : UInt8), (105 : UInt8), (114 : UInt8), (63 : UInt8)])], [cS (ByteArray.mk #[(110 : UInt8),
 (117 : UInt8), (109 : UInt8), (98 : UInt8), (101 : UInt8), (114 : UInt8), (63 : UInt8)])], [cS (ByteArray.mk #[(101 : UInt8), (113 : UInt8), (63 : UInt8)])], [cS (ByteArray.mk
 #[(110 : UInt8), (111 : UInt8), (116 : UInt8)])], [cS (ByteArray.mk #[(100 : UInt8), (105 : UInt8), (115 : UInt8), (112 : UInt8), (108 : UInt8), (97 : UInt8), (121 : UInt8)])]]]
 [Ob.arr true 1 (List.map strC primNames)] ∧ AV.sv (SV.one (AC.ref 0)) = AV.sv (SV.one (AC.ref 0))) := by kernel_rfl
theorem c_sPrimitiveNames   : P_c_sPrimitiveNames := by
  refine CallOK.ofRun wide (run_c_sPrimitiveNames) Try.call212 Try.func212 rfl rfl rfl ?_
  with_reducible repeat' (first | apply And.intro | exact flatI | exact flatS | exact rowLens | (intro; skip) | apply obsN | apply obsC | apply obA | apply obM | apply obB | apply svA | apply tupA | apply lcA | apply lcS | apply svC | apply liC | apply lbC | apply lsC | apply vIc | apply vBc | apply vSc | apply vLc | apply mapC)
  all_goals (try simp only [std] at *)
  all_goals (try (first | with_reducible rfl | omega | assumption | (refine (decide_eq_true ?_).symm; assumption) | (refine (decide_eq_false ?_).symm; assumption) | (refine rowGet ?_; (first | omega | (simp only [std]; omega) | grind)) | (refine getC ?_ rfl; (first | omega | (simp only [std]; omega) | grind)) | (refine fill_step ?_ ?_; (first | omega | (simp only [std]; omega) | grind); (first | rfl | exact (Row.eq _).trans rfl)) | (refine fill_init ?_; (first | rfl | exact (Row.eq _).trans rfl)) | grind [snocI, snocS, rowSnoc]))
  all_goals rfl
abbrev P_c_iPrimitiveNames  : Prop := CallOK Try.prog 214 [] [] [.arr true 1 (primNames.map strC)] (.sv (.one (.ref 0)))
theorem run_c_iPrimitiveNames : aexec Try.prog (Option.getD (Func.body Try.f214) Code.skip) (entry [] [] 2) [Orc.fin [0]] (finK Try.prog [ResultVar.tmp 0] [Ob.arr true 1 (List.map
 strC primNames)] (AV.sv (SV.one (AC.ref 0)))) = (ObsEq [Ob.arr true 1 [[cS (ByteArray.mk #[(43 : UInt8)])], [cS (ByteArray.mk #[(45 : UInt8)])], [cS (ByteArray.mk #[(42 :
 UInt8)])], [cS (ByteArray.mk #[(61 : UInt8)])], [cS (ByteArray.mk #[(60 : UInt8)])], [cS (ByteArray.mk #[(99 : UInt8), (111 : UInt8), (110 : UInt8), (115 : UInt8)])], [cS
 (ByteArray.mk #[(99 : UInt8), (97 : UInt8), (114 : UInt8)])], [cS (ByteArray.mk #[(99 : UInt8), (100 : UInt8), (114 : UInt8)])], [cS (ByteArray.mk #[(110 : UInt8), (117 : UInt8),
 (108 : UInt8), (108 : UInt8), (63 : UInt8)])], [cS (ByteArray.mk #[(112 : UInt8), (97 : UInt8), (105 : UInt8), (114 : UInt8), (63 : UInt8)])], [cS (ByteArray.mk #[(110 : UInt8),
 (117 : UInt8), (109 : UInt8), (98 : UInt8), (101 : UInt8), (114 : UInt8), (63 : UInt8)])], [cS (ByteArray.mk #[(101 : UInt8), (113 : UInt8), (63 : UInt8)])], [cS (ByteArray.mk
 #[(110 : UInt8), (111 : UInt8), (116 : UInt8)])], [cS (ByteArray.mk #[(100 : UInt8), (105 : UInt8), (115 : UInt8), (112 : UInt8), (108 : UInt8), (97 : UInt8), (121 : UInt8)])]]]
 [Ob.arr true 1 (List.map strC primNames)] ∧ AV.sv (SV.one (AC.ref 0)) = AV.sv (SV.one (AC.ref 0))) := by kernel_rfl
theorem c_iPrimitiveNames   : P_c_iPrimitiveNames := by
  refine CallOK.ofRun wide (run_c_iPrimitiveNames) Try.call214 Try.func214 rfl rfl rfl ?_
  with_reducible repeat' (first | apply And.intro | exact flatI | exact flatS | exact rowLens | (intro; skip) | apply obsN | apply obsC | apply obA | apply obM | apply obB | apply svA | apply tupA | apply lcA | apply lcS | apply svC | apply liC | apply lbC | apply lsC | apply vIc | apply vBc | apply vSc | apply vLc | apply mapC)
  all_goals (try simp only [std] at *)
  all_goals (try (first | with_reducible rfl | omega | assumption | (refine (decide_eq_true ?_).symm; assumption) | (refine (decide_eq_false ?_).symm; assumption) | (refine rowGet ?_; (first | omega | (simp only [std]; omega) | grind)) | (refine getC ?_ rfl; (first | omega | (simp only [std]; omega) | grind)) | (refine fill_step ?_ ?_; (first | omega | (simp only [std]; omega) | grind); (first | rfl | exact (Row.eq _).trans rfl)) | (refine fill_init ?_; (first | rfl | exact (Row.eq _).trans rfl)) | grind [snocI, snocS, rowSnoc]))
  all_goals rfl
end Go.Proofs.Ytehpjofddjmbpaa
end
