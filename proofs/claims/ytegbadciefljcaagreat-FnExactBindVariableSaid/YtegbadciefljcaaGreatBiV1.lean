/- Part 1 of the proof: The program's BindVariable returns what the reference's returns, for all arguments. No condition. -/
import Derived.Test.YtegbadciefljcaaGreatQ4
section
namespace Go.Proofs.YtegbadciefljcaaGreat
open Go Go.Proofs.YtegbadciefljcaaGreat.Ab
theorem dT {p : Prop} [Decidable p] (h : p) : true = decide p := (decide_eq_true h).symm
theorem dF {p : Prop} [Decidable p] (h : ¬ p) : false = decide p := (decide_eq_false h).symm
theorem hdI {σ : Type} {L : σ → St} {inv : σ → Prop} {meas : σ → Nat} {k : σ} {m : Nat} (h : inv k) (hm : meas k = m) : Head L inv meas m (L k) := hm ▸ Head.mk h
end Go.Proofs.YtegbadciefljcaaGreat
end
section
namespace Go.Proofs.YtegbadciefljcaaGreat
open Go Go.Proofs.YtegbadciefljcaaGreat.Ab
set_option linter.unusedVariables false
set_option linter.unusedSimpArgs false
set_option maxHeartbeats 4000000
theorem all_stop {L : List UInt8} {p : UInt8 -> Bool} {k : Nat} (h : k < L.length) (hp : p (L.getD k 0) = false) : L.all p = false := by
  rw [List.all_eq_false]
  have e : L.getD k 0 = L[k] := by simp [h]
  exact ⟨L[k], List.getElem_mem h, by rw [<- e, hp]; decide⟩
theorem all_go {L : List UInt8} {p : UInt8 -> Bool} {k : Nat} (h : k < L.length) (hp : p (L.getD k 0) = true) (ht : (L.take k).all p = true) : (L.take (k + 1)).all p = true := by
  rw [take0 h, List.all_append, ht, List.all_cons, hp]; rfl
theorem all_all {L : List UInt8} {p : UInt8 -> Bool} {k : Nat} (h : L.length <= k) (ht : (L.take k).all p = true) : L.all p = true := by
  rwa [List.take_of_length_le h] at ht
def lu (n : Int) : SV := .one (.val (.lit (.int .u8 n)))
def isDig (n : Int) : Bool := decide (48 <= n /\ n <= 57)
def markI : List Int := [33, 63, 42, 60, 62, 61, 47, 43, 45, 46, 95]
def isMk (n : Int) : Bool := decide (97 <= n /\ n <= 122) || isDig n || decide (n ∈ markI)
theorem mark_at {k : Nat} (h : k < 11) : ((([33, 63, 42, 60, 62, 61, 47, 43, 45, 46, 95] : List UInt8).getD k 0).toNat : Int) = markI.getD k default := by
  have : ∀ k, k < 11 -> ((([33, 63, 42, 60, 62, 61, 47, 43, 45, 46, 95] : List UInt8).getD k 0).toNat : Int) = markI.getD k default := by decide
  exact this k h
def isStB (n : Int) : Bool := decide (32 <= n /\ n <= 126 /\ n ≠ 34)
def isSym (s : ByteArray) : Bool := decide (1 <= (s.size : Int) /\ (s.size : Int) <= 16) && !isDig (s.data.toList.getD 0 0).toNat && !(decide (((s.data.toList.getD 0 0).toNat : Int) = 45) && decide (1 < (s.size : Int)) && isDig (s.data.toList.getD 1 0).toNat) && s.data.toList.all fun b => isMk b.toNat
def isStr (s : ByteArray) : Bool := decide ((s.size : Int) <= 20) && s.data.toList.all fun b => isStB b.toNat
abbrev Zdp (n : Int) : Prop := CallOK Tryz.prog 243 [] [lu n] [] (.sv (lb (isDig n)))
theorem Zwx (n : Int) : aexec Tryz.prog (Tryz.f243.body.getD .skip) (entry [] [lu n] 9) [.br [.fin []] [.fin []]] (finK Tryz.prog [ResultVar.tmp
 2] [] (AV.sv (lb (isDig n)))) = ((decide (48 <= n) = true -> ObsEq [] [] /\ AV.sv (lb (decide (n <= 57))) = AV.sv (lb (isDig n))) /\ (decide (48 <= n) = false -> ObsEq [] [] /\ AV.sv (lb
 false) = AV.sv (lb (isDig n)))) := by kernel_rfl
theorem Z59 (n : Int)  : Zdp n := by
  refine CallOK.ofRun wide (Zwx n) Tryz.call243 Tryz.func243 rfl rfl rfl ?_
  with_reducible repeat' (first | apply And.intro | exact flatI | exact flatS | exact rowLens | (intro; skip) | apply obsN | apply obsC | apply obA | apply obM | apply obB | apply svA | apply tupA | apply lcA | apply lcS | apply svC | apply liC | apply lbC | apply lsC | apply vIc | apply vBc | apply vSc | apply vLc | apply mapC)
  all_goals (try simp only [std] at *)
  all_goals (try (first | with_reducible rfl | omega | assumption | exact dT ‹_› | exact dF ‹_› | ((first | refine rowGet ?_ | refine getC ?_ rfl); (first | omega | (simp only [std]; omega) | grind)) | (show (_ : St) = _; rfl) | grind [isDig, snocI, snocS, rowSnoc]))
abbrev Zn6 (n : Int) : Prop := CallOK Tryz.prog 246 [] [lu n] [] (.sv (lb (isDig n)))
theorem Zwy (n : Int) : aexec Tryz.prog (Tryz.f246.body.getD .skip) (entry [] [lu n] 9) [.br [.fin []] [.fin []]] (finK Tryz.prog [ResultVar.tmp
 2] [] (AV.sv (lb (isDig n)))) = ((decide (48 <= n) = true -> ObsEq [] [] /\ AV.sv (lb (decide (n <= 57))) = AV.sv (lb (isDig n))) /\ (decide (48 <= n) = false -> ObsEq [] [] /\ AV.sv (lb
 false) = AV.sv (lb (isDig n)))) := by kernel_rfl
theorem Zf8 (n : Int)  : Zn6 n := by
  refine CallOK.ofRun wide (Zwy n) Tryz.call246 Tryz.func246 rfl rfl rfl ?_
  with_reducible repeat' (first | apply And.intro | exact flatI | exact flatS | exact rowLens | (intro; skip) | apply obsN | apply obsC | apply obA | apply obM | apply obB | apply svA | apply tupA | apply lcA | apply lcS | apply svC | apply liC | apply lbC | apply lsC | apply vIc | apply vBc | apply vSc | apply vLc | apply mapC)
  all_goals (try simp only [std] at *)
  all_goals (try (first | with_reducible rfl | omega | assumption | exact dT ‹_› | exact dF ‹_› | ((first | refine rowGet ?_ | refine getC ?_ rfl); (first | omega | (simp only [std]; omega) | grind)) | (show (_ : St) = _; rfl) | grind [isDig, snocI, snocS, rowSnoc]))
abbrev Zvb (n : Int) : Prop := CallOK Tryz.prog 244 [] [lu n] [] (.sv (lb (isMk n)))
def Zi8 (n : Int) (x0 : SV) : St := St.mk (regsOf 26 [(0, AV.sv (SV.one (AC.val (Cell.lit (Value.int IntKind.u8 n))))), (3, AV.sv (ls (ByteArray.mk #[(33 : UInt8), (63 :
 UInt8), (42 : UInt8), (60 : UInt8), (62 : UInt8), (61 : UInt8), (47 : UInt8), (43 : UInt8), (45 : UInt8), (46 : UInt8), (95 : UInt8)]))), (4, AV.sv x0)]) [] 0 
def Z5r (n : Int) (k : Nat) : St := Zi8 n (li (k : Int)) 
abbrev Zb6 (n : Int) : Nat -> St -> Prop := Head (Z5r n) (fun k => k <= 11 /\ ¬n ∈ List.take k markI) fun k => 11 - k 
def Zfx (n : Int) : St := St.mk (regsOf 26 []) [] 0 
def Z9p (n : Int) (x0 : SV) : St := St.mk (regsOf 26 [(2, AV.sv x0)]) [] 0 
def Zn7 (n : Int) : List (Prop × AEx × St) := [(decide (n ∈ markI) = false, AEx.exit 0, Zfx n), (decide (n ∈ markI) = true, AEx.ret, Z9p n (lb true))]

theorem Zse {n : Int} {k : Nat} {x0 : SV} (h0 : x0 = (li (k : Int))) : Zi8 n x0 = Z5r n k := by
  rw [h0]
  rfl
theorem Zou {n : Int} {x0 y0 : SV} (h0 : x0 = y0) : Z9p n x0 = Z9p n y0 := by rw [h0]
abbrev Zj8 (n : Int) (k : Nat) := ((↑(UInt8.toNat (List.getD [(33 : UInt8), (63 : UInt8), (42 : UInt8), (60 : UInt8), (62 : UInt8), (61 : UInt8), (47 : UInt8), (43 :
 UInt8), (45 : UInt8), (46 : UInt8), (95 : UInt8)] (Int.toNat (↑k : Int)) (0 : UInt8))) : Int) = n)
theorem Zvv (n : Int) (k : Nat) : aexec Tryz.prog (loopAt Tryz.f244 0) (Z5r n k) [.br [.br [.ghost (.sel [] [2]), .out 1] [.ghost (.sel []
 [0, 3, 4]), .goto (11 - (k + 1)) (Z5r n (k + 1))]] [.ghost (.sel [] []), .out 0]] (loopK (Zb6 n) (Zn7 n) (11 - k)) = (11 <= 9223372036854775807 ->
 (decide ((k : Int) < 11) = true -> (0 <= (k : Int) /\ Int.toNat (k : Int) < 11) /\ (decide (Zj8 n k) = true -> decide (n ∈ markI) = true /\ Z9p n (lb true) =
 Z9p n (lb true)) /\ (decide (Zj8 n k) = false -> rng .i64 ((k : Int) + 1) /\ 11 - (k + 1) < 11 - k /\ Zi8 n (li ((k : Int) + 1)) = Z5r n (k +
 1) /\ Zb6 n (11 - (k + 1)) (Z5r n (k + 1)))) /\ (decide ((k : Int) < 11) = false -> decide (n ∈ markI) = false /\ Zfx n = Zfx n)) := by kernel_rfl
theorem Z102 (n : Int)  : LoopSem Tryz.prog (loopAt Tryz.f244 0) (Zb6 n) (Zn7 n) := by
  refine LoopSem.ofHead wide fun k h => ⟨_, _, Zvv n k, ?_⟩
  try delta Zj8
  have g := @mark_at k
  have e : markI.length = 11 := rfl
  have e2 : markI.take 11 = markI := rfl
  with_reducible repeat' (first | apply And.intro | exact flatI | exact flatS | exact rowLens | (intro; skip) | apply obsN | apply obsC | apply obA | apply obM | apply obB | apply svA | apply tupA | apply lcA | apply lcS | apply svC | apply liC | apply lbC | apply lsC | apply vIc | apply vBc | apply vSc | apply vLc | apply mapC | apply hdI | apply Zse | apply Zou | apply Z59)
  all_goals (try simp only [std] at *)
  all_goals (try (first | with_reducible apply Z59 | (simp only [<- List.map_append]; first | with_reducible apply Z59)))
  all_goals (try (first | with_reducible rfl | omega | assumption | exact dT ‹_› | exact dF ‹_› | ((first | refine rowGet ?_ | refine getC ?_ rfl); (first | omega | (simp only [std]; omega) | grind)) | (show (_ : St) = _; rfl) | grind [take_get, getD_mem', snocI, snocS, rowSnoc]))
abbrev Zn8 (n : Int) := (isDig n = false → Zi8 n (li 0) = Z5r n 0 ∧ Zb6 n 11 (Z5r n 0) ∧ LoopSem Tryz.prog (loopAt Tryz.f244 0) (Zb6 n)
 (Zn7 n) ∧ (decide (n ∈ markI) = false → ObsEq [] [] ∧ AV.sv (lb false) = AV.sv (lb (isMk n))) ∧ (decide (n ∈ markI) = true → ObsEq [] [] ∧ AV.sv (lb true) = AV.sv (lb (isMk
 n))) ∧ True)
abbrev Zn9 (n : Int) := [Orc.ghost (Ghost.sel [] [0, 3, 4]), Orc.loop 11 (Z5r n 0) (Zb6 n) [(decide (n ∈ markI) = false, AEx.exit 0, Zfx n, [Orc.fin
 []]), (decide (n ∈ markI) = true, AEx.ret, Z9p n (lb true), [Orc.fin []])]]
theorem Zyp (n : Int) : aexec Tryz.prog (Tryz.f244.body.getD .skip) (entry [] [lu n] 26) [.br [.br [.bool true, .fin []] [.call [Mode.rd]
 [] (AV.sv (lb (isDig n))), .br [.fin []] (Zn9 n)]] [.bool false, .call [Mode.rd] [] (AV.sv (lb (isDig n))), .br [.fin []] (Zn9 n)]] (finK Tryz.prog
 [ResultVar.tmp 2] [] (AV.sv (lb (isMk n)))) = ((decide (97 <= n) = true -> (decide (n <= 122) = true -> true = true /\ ObsEq [] [] /\ AV.sv (lb true) = AV.sv (lb (isMk n))) /\ (decide (n
 <= 122) = false -> Zdp n /\ (isDig n = true -> ObsEq [] [] /\ AV.sv (lb true) = AV.sv (lb (isMk n))) /\ (Zn8 n))) /\ (decide (97 <= n) = false -> false = false /\ Zdp n
 /\ (isDig n = true -> ObsEq [] [] /\ AV.sv (lb true) = AV.sv (lb (isMk n))) /\ (Zn8 n))) := by kernel_rfl
theorem Ziu (n : Int)  : Zvb n := by
  refine CallOK.ofRun wide (Zyp n) Tryz.call244 Tryz.func244 rfl rfl rfl ?_
  try delta Zn8 Zn9
  with_reducible repeat' (first | apply And.intro | exact flatI | exact flatS | exact rowLens | (intro; skip) | apply obsN | apply obsC | apply obA | apply obM | apply obB | apply svA | apply tupA | apply lcA | apply lcS | apply svC | apply liC | apply lbC | apply lsC | apply vIc | apply vBc | apply vSc | apply vLc | apply mapC | apply hdI | apply Zse | apply Z102 | apply Zou | apply Z59)
  all_goals (try simp only [std] at *)
  all_goals (try (first | with_reducible apply Z59 | (simp only [<- List.map_append]; first | with_reducible apply Z59)))
  all_goals (try (first | with_reducible rfl | omega | assumption | exact dT ‹_› | exact dF ‹_› | ((first | refine rowGet ?_ | refine getC ?_ rfl); (first | omega | (simp only [std]; omega) | grind)) | (show (_ : St) = _; rfl) | grind [isMk, snocI, snocS, rowSnoc]))
abbrev Zvc (n : Int) : Prop := CallOK Tryz.prog 247 [] [lu n] [] (.sv (lb (isMk n)))
abbrev Zi9 (n : Int) := (decide (n = 33) = false -> (decide (n = 63) = true -> true = true /\ ObsEq [] [] /\ AV.sv (lb true) = AV.sv (lb (isMk n))) /\ (decide (n = 63) = false ->
 (decide (n = 42) = true -> true = true /\ ObsEq [] [] /\ AV.sv (lb true) = AV.sv (lb (isMk n))) /\ (decide (n = 42) = false -> (decide (n = 60) = true -> true = true /\ ObsEq [] [] /\
 AV.sv (lb true) = AV.sv (lb (isMk n))) /\ (decide (n = 60) = false -> (decide (n = 62) = true -> true = true /\ ObsEq [] [] /\ AV.sv (lb true) = AV.sv (lb (isMk n))) /\ (decide (n = 62)
 = false -> (decide (n = 61) = true -> true = true /\ ObsEq [] [] /\ AV.sv (lb true) = AV.sv (lb (isMk n))) /\ (decide (n = 61) = false -> (decide (n = 47) = true -> true = true /\ ObsEq
 [] [] /\ AV.sv (lb true) = AV.sv (lb (isMk n))) /\ (decide (n = 47) = false -> (decide (n = 43) = true -> true = true /\ ObsEq [] [] /\ AV.sv (lb true) = AV.sv (lb (isMk n))) /\ (decide
 (n = 43) = false -> (decide (n = 45) = true -> true = true /\ ObsEq [] [] /\ AV.sv (lb true) = AV.sv (lb (isMk n))) /\ (decide (n = 45) = false -> (decide (n = 46) = true -> true = true
 /\ ObsEq [] [] /\ AV.sv (lb true) = AV.sv (lb (isMk n))) /\ (decide (n = 46) = false -> (decide (n = 95) = true -> ObsEq [] [] /\ AV.sv (lb true) = AV.sv (lb (isMk n))) /\ (decide (n =
 95) = false -> ObsEq [] [] /\ AV.sv (lb false) = AV.sv (lb (isMk n)))))))))))))
abbrev Zdq  := [Orc.br [Orc.bool true, Orc.fin []] [Orc.br [Orc.bool true, Orc.fin []] [Orc.br [Orc.bool true, Orc.fin []] [Orc.br [Orc.bool true, Orc.fin []] [Orc.br
 [Orc.bool true, Orc.fin []] [Orc.br [Orc.bool true, Orc.fin []] [Orc.br [Orc.bool true, Orc.fin []] [Orc.br [Orc.bool true, Orc.fin []] [Orc.br [Orc.bool true, Orc.fin []] [Orc.br
 [Orc.fin []] [Orc.fin []]]]]]]]]]]]
abbrev Zna (n : Int) := (decide (48 <= n) = true -> (decide (n <= 57) = true -> ObsEq [] [] /\ AV.sv (lb true) = AV.sv (lb (isMk n))) /\ (decide (n <= 57) = false -> (decide (n =
 33) = true -> true = true /\ ObsEq [] [] /\ AV.sv (lb true) = AV.sv (lb (isMk n))) /\ (Zi9 n)))
theorem Zyq (n : Int) : aexec Tryz.prog (Tryz.f247.body.getD .skip) (entry [] [lu n] 30) [.br [.br [.bool true, .fin []] [.br [.br
 [.fin []] [.br [.bool true, .fin []] Zdq]] [.bool false, .br [.bool true, .fin []] Zdq]]] [.bool false, .br [.br [.fin []]
 [.br [.bool true, .fin []] Zdq]] [.bool false, .br [.bool true, .fin []] Zdq]]] (finK Tryz.prog [ResultVar.tmp 2] [] (AV.sv (lb (isMk n)))) =
 ((decide (97 <= n) = true -> (decide (n <= 122) = true -> true = true /\ ObsEq [] [] /\ AV.sv (lb true) = AV.sv (lb (isMk n))) /\ (decide (n <= 122) = false -> (Zna n) /\ (decide (48
 <= n) = false -> false = false /\ (decide (n = 33) = true -> true = true /\ ObsEq [] [] /\ AV.sv (lb true) = AV.sv (lb (isMk n))) /\ (Zi9 n)))) /\ (decide (97 <= n) = false -> false
 = false /\ (Zna n) /\ (decide (48 <= n) = false -> false = false /\ (decide (n = 33) = true -> true = true /\ ObsEq [] [] /\ AV.sv (lb true) = AV.sv (lb (isMk n))) /\ (Zi9
 n)))) := by kernel_rfl
theorem Ziv (n : Int)  : Zvc n := by
  refine CallOK.ofRun wide (Zyq n) Tryz.call247 Tryz.func247 rfl rfl rfl ?_
  try delta Zi9 Zdq Zna
  with_reducible repeat' (first | apply And.intro | exact flatI | exact flatS | exact rowLens | (intro; skip) | apply obsN | apply obsC | apply obA | apply obM | apply obB | apply svA | apply tupA | apply lcA | apply lcS | apply svC | apply liC | apply lbC | apply lsC | apply vIc | apply vBc | apply vSc | apply vLc | apply mapC)
  all_goals (try simp only [std] at *)
  all_goals (try (first | with_reducible rfl | omega | assumption | exact dT ‹_› | exact dF ‹_› | ((first | refine rowGet ?_ | refine getC ?_ rfl); (first | omega | (simp only [std]; omega) | grind)) | (show (_ : St) = _; rfl) | grind [snocI, snocS, rowSnoc]))
  all_goals (symm; simp only [isMk, isDig, markI, List.mem_cons, List.not_mem_nil, Bool.or_eq_true, Bool.or_eq_false_iff, decide_eq_true_eq, decide_eq_false_iff_not, or_false]; omega)
abbrev Z3o (x : Int) (a : Int) (b : Int) : Prop := CallOK Tryz.prog 83 [] [li x, li a, li b] [] (.sv (lb (decide (a <= x /\ x <= b))))
theorem Z103 (x : Int) (a : Int) (b : Int) : aexec Tryz.prog (Tryz.f83.body.getD .skip) (entry [] [li x, li a, li b] 15) [.br [.fin []] [.fin []]]
 (finK Tryz.prog [ResultVar.tmp 6] [] (AV.sv (lb (decide (a <= x /\ x <= b))))) = ((decide (a <= x) = true -> ObsEq [] [] /\ AV.sv (lb (decide (x <= b))) = AV.sv (lb (decide (a <= x /\ x <=
 b)))) /\ (decide (a <= x) = false -> ObsEq [] [] /\ AV.sv (lb false) = AV.sv (lb (decide (a <= x /\ x <= b))))) := by kernel_rfl
theorem Z2 (x a b : Int)  : Z3o x a b := by
  refine CallOK.ofRun wide (Z103 x a b) Tryz.call83 Tryz.func83 rfl rfl rfl ?_
  with_reducible repeat' (first | apply And.intro | exact flatI | exact flatS | exact rowLens | (intro; skip) | apply obsN | apply obsC | apply obA | apply obM | apply obB | apply svA | apply tupA | apply lcA | apply lcS | apply svC | apply liC | apply lbC | apply lsC | apply vIc | apply vBc | apply vSc | apply vLc | apply mapC)
  all_goals (try simp only [std] at *)
  all_goals (try (first | with_reducible rfl | omega | assumption | exact dT ‹_› | exact dF ‹_› | ((first | refine rowGet ?_ | refine getC ?_ rfl); (first | omega | (simp only [std]; omega) | grind)) | (show (_ : St) = _; rfl) | grind [snocI, snocS, rowSnoc]))
abbrev Z5a (s : ByteArray) : Prop := CallOK Tryz.prog 211 [] [ls s] [] (.sv (lb (isSym s)))
def Z66 (s : ByteArray) (x0 : SV) : St := St.mk (regsOf 39 [(0, AV.sv (ls s)), (3, AV.sv x0)]) [] 0 
def Z8 (s : ByteArray) (k : Nat) : St := Z66 s (li (k : Int)) 
abbrev Zh (s : ByteArray) : Nat -> St -> Prop := Head (Z8 s) (fun k => k <= ByteArray.size s /\ ByteArray.size s <= 16 /\ (List.all (List.take k (Array.toList
 (ByteArray.data s))) fun b => isMk (↑(UInt8.toNat b) : Int)) = true) fun k => ByteArray.size s - k 
def Z4s (s : ByteArray) : St := St.mk (regsOf 39 []) [] 0 
def Z2c (s : ByteArray) (x0 : SV) : St := St.mk (regsOf 39 [(2, AV.sv x0)]) [] 0 
def Z8e (s : ByteArray) : List (Prop × AEx × St) := [((List.all (Array.toList (ByteArray.data s)) fun b => isMk (↑(UInt8.toNat b) : Int)) = true, AEx.exit 0,
 Z4s s), ((List.all (Array.toList (ByteArray.data s)) fun b => isMk (↑(UInt8.toNat b) : Int)) = false, AEx.ret, Z2c s (lb false))]

theorem Zm4 {s : ByteArray} {k : Nat} {x0 : SV} (h0 : x0 = (li (k : Int))) : Z66 s x0 = Z8 s k := by
  rw [h0]
  rfl
theorem Zj9 {s : ByteArray} {x0 y0 : SV} (h0 : x0 = y0) : Z2c s x0 = Z2c s y0 := by rw [h0]
abbrev Z6q (s : ByteArray) (k : Nat) := (↑(UInt8.toNat (List.getD (Array.toList (ByteArray.data s)) (Int.toNat (↑k : Int)) (0 : UInt8))) : Int)
theorem Zqd (s : ByteArray) (k : Nat) : aexec Tryz.prog (loopAt Tryz.f211 0) (Z8 s k) [.br [.call [Mode.rd] [] (AV.sv (lb (isMk (Z6q s
 k)))), .br [.ghost (.sel [] [2]), .out 1] [.ghost (.sel [] [0, 3]), .goto (ByteArray.size s - (k + 1)) (Z8 s (k + 1))]] [.ghost (.sel
 [] []), .out 0]] (loopK (Zh s) (Z8e s) (ByteArray.size s - k)) = (List.length (Array.toList (ByteArray.data s)) <= 9223372036854775807 -> (decide ((↑k :
 Int) < (↑(List.length (Array.toList (ByteArray.data s))) : Int)) = true -> (0 <= (k : Int) /\ Int.toNat (k : Int) < List.length (Array.toList (ByteArray.data s))) /\ Zvb
 (Z6q s k) /\ ((!isMk (Z6q s k)) = true -> (List.all (Array.toList (ByteArray.data s)) fun b => isMk (↑(UInt8.toNat b) : Int)) = false /\ Z2c s
 (lb false) = Z2c s (lb false)) /\ ((!isMk (Z6q s k)) = false -> rng .i64 ((k : Int) + 1) /\ ByteArray.size s - (k + 1) < ByteArray.size s - k /\
 Z66 s (li ((k : Int) + 1)) = Z8 s (k + 1) /\ Zh s (ByteArray.size s - (k + 1)) (Z8 s (k + 1)))) /\ (decide ((k : Int) <
 (↑(List.length (Array.toList (ByteArray.data s))) : Int)) = false -> (List.all (Array.toList (ByteArray.data s)) fun b => isMk (↑(UInt8.toNat b) : Int)) = true /\ Z4s s
 = Z4s s)) := by kernel_rfl
theorem Zty (s : ByteArray)  : LoopSem Tryz.prog (loopAt Tryz.f211 0) (Zh s) (Z8e s) := by
  refine LoopSem.ofHead wide fun k h => ⟨_, _, Zqd s k, ?_⟩
  try delta Z6q
  have g1 := @all_stop s.data.toList (fun b => isMk b.toNat) k
  have g2 := @all_go s.data.toList (fun b => isMk b.toNat) k
  have g3 := @all_all s.data.toList (fun b => isMk b.toNat) k
  with_reducible repeat' (first | apply And.intro | exact flatI | exact flatS | exact rowLens | (intro; skip) | apply obsN | apply obsC | apply obA | apply obM | apply obB | apply svA | apply tupA | apply lcA | apply lcS | apply svC | apply liC | apply lbC | apply lsC | apply vIc | apply vBc | apply vSc | apply vLc | apply mapC | apply hdI | apply Zm4 | apply Zj9 | apply Z2 | apply Z59 | apply Ziu)
  all_goals (try simp only [std] at *)
  all_goals (try (first | with_reducible apply Z2 | with_reducible apply Z59 | with_reducible apply Ziu | (simp only [<- List.map_append]; first | with_reducible apply Z2 | with_reducible apply Z59 | with_reducible apply Ziu)))
  all_goals (try (first | with_reducible rfl | omega | assumption | exact dT ‹_› | exact dF ‹_› | ((first | refine rowGet ?_ | refine getC ?_ rfl); (first | omega | (simp only [std]; omega) | grind)) | (show (_ : St) = _; rfl) | grind [snocI, snocS, rowSnoc]))
abbrev Z3p (s : ByteArray) := (↑(UInt8.toNat (List.getD (Array.toList (ByteArray.data s)) 0 (0 : UInt8))) : Int)
abbrev Z19 (s : ByteArray) := (↑(List.length (Array.toList (ByteArray.data s))) : Int)
abbrev Z8f (s : ByteArray) := (↑(UInt8.toNat (List.getD (Array.toList (ByteArray.data s)) 1 (0 : UInt8))) : Int)
theorem Zsf (s : ByteArray) : aexec Tryz.prog (Tryz.f211.body.getD .skip) (entry [] [ls s] 39) [.call [Mode.rd, Mode.rd, Mode.rd] [] (AV.sv (lb
 (decide (1 <= (Z19 s) /\ (Z19 s) <= 16)))), .br [.bool true, .bool true, .fin []] [.call [Mode.rd] [] (AV.sv (lb (isDig (Z3p s)))),
 .br [.bool true, .fin []] [.br [.br [.call [Mode.rd] [] (AV.sv (lb (isDig (Z8f s)))), .br [.fin []] [.ghost (.sel [] [0, 3]), .loop
 (ByteArray.size s - 0) (Z8 s 0) (Zh s) [((List.all (Array.toList (ByteArray.data s)) fun b => isMk (↑(UInt8.toNat b) : Int)) = true, AEx.exit 0,
 Z4s s, [.fin []]), ((List.all (Array.toList (ByteArray.data s)) fun b => isMk (↑(UInt8.toNat b) : Int)) = false, AEx.ret, Z2c s (lb false), [.fin
 []])]]] [.bool false, .ghost (.sel [] [0, 3]), .loop (ByteArray.size s - 0) (Z8 s 0) (Zh s) [((List.all (Array.toList (ByteArray.data s)) fun
 b => isMk (↑(UInt8.toNat b) : Int)) = true, AEx.exit 0, Z4s s, [.fin []]), ((List.all (Array.toList (ByteArray.data s)) fun b => isMk (↑(UInt8.toNat b) : Int)) =
 false, AEx.ret, Z2c s (lb false), [.fin []])]]] [.bool false, .bool false, .ghost (.sel [] [0, 3]), .loop (ByteArray.size s - 0) (Z8 s
 0) (Zh s) [((List.all (Array.toList (ByteArray.data s)) fun b => isMk (↑(UInt8.toNat b) : Int)) = true, AEx.exit 0, Z4s s, [.fin []]), ((List.all
 (Array.toList (ByteArray.data s)) fun b => isMk (↑(UInt8.toNat b) : Int)) = false, AEx.ret, Z2c s (lb false), [.fin []])]]]]] (finK Tryz.prog [ResultVar.tmp 2] []
 (AV.sv (lb (isSym s)))) = (List.length (Array.toList (ByteArray.data s)) <= 9223372036854775807 -> Z3o (Z19 s) 1 16 /\ ((!decide (1 <= (Z19 s) /\
 (Z19 s) <= 16)) = true -> true = true /\ true = true /\ ObsEq [] [] /\ AV.sv (lb false) = AV.sv (lb (isSym s))) /\ ((!decide (1 <= (Z19 s) /\ (Z19 s) <=
 16)) = false -> ((0 : Int) <= 0 /\ 0 < List.length (Array.toList (ByteArray.data s))) /\ Zdp (Z3p s) /\ (isDig (Z3p s) = true -> true = true /\ ObsEq [] [] /\
 AV.sv (lb false) = AV.sv (lb (isSym s))) /\ (isDig (Z3p s) = false -> ((0 : Int) <= 0 /\ 0 < List.length (Array.toList (ByteArray.data s))) /\ (decide ((Z3p s) =
 45) = true -> List.length (Array.toList (ByteArray.data s)) <= 9223372036854775807 -> (decide (1 < (Z19 s)) = true -> ((0 : Int) <= 1 /\ 1 < List.length (Array.toList
 (ByteArray.data s))) /\ Zdp (Z8f s) /\ (isDig (Z8f s) = true -> ObsEq [] [] /\ AV.sv (lb false) = AV.sv (lb (isSym s))) /\ (isDig (Z8f s) =
 false -> Z66 s (li 0) = Z8 s 0 /\ Zh s (ByteArray.size s - 0) (Z8 s 0) /\ LoopSem Tryz.prog (loopAt Tryz.f211 0) (Zh s)
 (Z8e s) /\ ((List.all (Array.toList (ByteArray.data s)) fun b => isMk (↑(UInt8.toNat b) : Int)) = true -> ObsEq [] [] /\ AV.sv (lb true) = AV.sv (lb (isSym s))) /\
 ((List.all (Array.toList (ByteArray.data s)) fun b => isMk (↑(UInt8.toNat b) : Int)) = false -> ObsEq [] [] /\ AV.sv (lb false) = AV.sv (lb (isSym s))) /\ True)) /\ (decide (1 <
 (Z19 s)) = false -> false = false /\ Z66 s (li 0) = Z8 s 0 /\ Zh s (ByteArray.size s - 0) (Z8 s 0) /\ LoopSem Tryz.prog
 (loopAt Tryz.f211 0) (Zh s) (Z8e s) /\ ((List.all (Array.toList (ByteArray.data s)) fun b => isMk (↑(UInt8.toNat b) : Int)) = true -> ObsEq [] [] /\ AV.sv (lb
 true) = AV.sv (lb (isSym s))) /\ ((List.all (Array.toList (ByteArray.data s)) fun b => isMk (↑(UInt8.toNat b) : Int)) = false -> ObsEq [] [] /\ AV.sv (lb false) = AV.sv (lb (isSym
 s))) /\ True)) /\ (decide ((Z3p s) = 45) = false -> false = false /\ false = false /\ Z66 s (li 0) = Z8 s 0 /\ Zh s (ByteArray.size s - 0)
 (Z8 s 0) /\ LoopSem Tryz.prog (loopAt Tryz.f211 0) (Zh s) (Z8e s) /\ ((List.all (Array.toList (ByteArray.data s)) fun b => isMk (↑(UInt8.toNat b)
 : Int)) = true -> ObsEq [] [] /\ AV.sv (lb true) = AV.sv (lb (isSym s))) /\ ((List.all (Array.toList (ByteArray.data s)) fun b => isMk (↑(UInt8.toNat b) : Int)) = false -> ObsEq [] []
 /\ AV.sv (lb false) = AV.sv (lb (isSym s))) /\ True)))) := by kernel_rfl
theorem Z9q (s : ByteArray)  : Z5a s := by
  refine CallOK.ofRun wide (Zsf s) Tryz.call211 Tryz.func211 rfl rfl rfl ?_
  try delta Z3p Z19 Z8f
  with_reducible repeat' (first | apply And.intro | exact flatI | exact flatS | exact rowLens | (intro; skip) | apply obsN | apply obsC | apply obA | apply obM | apply obB | apply svA | apply tupA | apply lcA | apply lcS | apply svC | apply liC | apply lbC | apply lsC | apply vIc | apply vBc | apply vSc | apply vLc | apply mapC | apply hdI | apply Zm4 | apply Zty | apply Zj9 | apply Z2 | apply Z59 | apply Ziu)
  all_goals (try simp only [std] at *)
  all_goals (try (first | with_reducible apply Z2 | with_reducible apply Z59 | with_reducible apply Ziu | (simp only [<- List.map_append]; first | with_reducible apply Z2 | with_reducible apply Z59 | with_reducible apply Ziu)))
  all_goals (try (first | with_reducible rfl | omega | assumption | exact dT ‹_› | exact dF ‹_› | ((first | refine rowGet ?_ | refine getC ?_ rfl); (first | omega | (simp only [std]; omega) | grind)) | (show (_ : St) = _; rfl) | grind [isSym, snocI, snocS, rowSnoc]))
abbrev Zha (s : ByteArray) : Prop := CallOK Tryz.prog 217 [] [ls s] [] (.sv (lb (isSym s)))
def Z67 (s : ByteArray) (x0 : SV) : St := St.mk (regsOf 43 [(0, AV.sv (ls s)), (3, AV.sv x0)]) [] 0 
def Z9 (s : ByteArray) (k : Nat) : St := Z67 s (li (k : Int)) 
abbrev Zi (s : ByteArray) : Nat -> St -> Prop := Head (Z9 s) (fun k => k <= ByteArray.size s /\ ByteArray.size s <= 16 /\ (List.all (List.take k (Array.toList
 (ByteArray.data s))) fun b => isMk (↑(UInt8.toNat b) : Int)) = true) fun k => ByteArray.size s - k 
def Z4t (s : ByteArray) : St := St.mk (regsOf 43 []) [] 0 
def Z2d (s : ByteArray) (x0 : SV) : St := St.mk (regsOf 43 [(2, AV.sv x0)]) [] 0 
def Z8g (s : ByteArray) : List (Prop × AEx × St) := [((List.all (Array.toList (ByteArray.data s)) fun b => isMk (↑(UInt8.toNat b) : Int)) = true, AEx.exit 0,
 Z4t s), ((List.all (Array.toList (ByteArray.data s)) fun b => isMk (↑(UInt8.toNat b) : Int)) = false, AEx.ret, Z2d s (lb false))]

theorem Zm5 {s : ByteArray} {k : Nat} {x0 : SV} (h0 : x0 = (li (k : Int))) : Z67 s x0 = Z9 s k := by
  rw [h0]
  rfl
theorem Zja {s : ByteArray} {x0 y0 : SV} (h0 : x0 = y0) : Z2d s x0 = Z2d s y0 := by rw [h0]
abbrev Z6r (s : ByteArray) (k : Nat) := (↑(UInt8.toNat (List.getD (Array.toList (ByteArray.data s)) (Int.toNat (↑k : Int)) (0 : UInt8))) : Int)
theorem Zqe (s : ByteArray) (k : Nat) : aexec Tryz.prog (loopAt Tryz.f217 0) (Z9 s k) [.br [.call [Mode.rd] [] (AV.sv (lb (isMk (Z6r s
 k)))), .br [.ghost (.sel [] [2]), .out 1] [.ghost (.sel [] [0, 3]), .goto (ByteArray.size s - (k + 1)) (Z9 s (k + 1))]] [.ghost (.sel
 [] []), .out 0]] (loopK (Zi s) (Z8g s) (ByteArray.size s - k)) = (List.length (Array.toList (ByteArray.data s)) <= 9223372036854775807 -> (decide ((↑k :
 Int) < (↑(List.length (Array.toList (ByteArray.data s))) : Int)) = true -> (0 <= (k : Int) /\ Int.toNat (k : Int) < List.length (Array.toList (ByteArray.data s))) /\ Zvc
 (Z6r s k) /\ ((!isMk (Z6r s k)) = true -> (List.all (Array.toList (ByteArray.data s)) fun b => isMk (↑(UInt8.toNat b) : Int)) = false /\ Z2d s
 (lb false) = Z2d s (lb false)) /\ ((!isMk (Z6r s k)) = false -> rng .i64 ((k : Int) + 1) /\ ByteArray.size s - (k + 1) < ByteArray.size s - k /\
 Z67 s (li ((k : Int) + 1)) = Z9 s (k + 1) /\ Zi s (ByteArray.size s - (k + 1)) (Z9 s (k + 1)))) /\ (decide ((k : Int) <
 (↑(List.length (Array.toList (ByteArray.data s))) : Int)) = false -> (List.all (Array.toList (ByteArray.data s)) fun b => isMk (↑(UInt8.toNat b) : Int)) = true /\ Z4t s
 = Z4t s)) := by kernel_rfl
theorem Ztz (s : ByteArray)  : LoopSem Tryz.prog (loopAt Tryz.f217 0) (Zi s) (Z8g s) := by
  refine LoopSem.ofHead wide fun k h => ⟨_, _, Zqe s k, ?_⟩
  try delta Z6r
  have g1 := @all_stop s.data.toList (fun b => isMk b.toNat) k
  have g2 := @all_go s.data.toList (fun b => isMk b.toNat) k
  have g3 := @all_all s.data.toList (fun b => isMk b.toNat) k
  with_reducible repeat' (first | apply And.intro | exact flatI | exact flatS | exact rowLens | (intro; skip) | apply obsN | apply obsC | apply obA | apply obM | apply obB | apply svA | apply tupA | apply lcA | apply lcS | apply svC | apply liC | apply lbC | apply lsC | apply vIc | apply vBc | apply vSc | apply vLc | apply mapC | apply hdI | apply Zm5 | apply Zja | apply Z2 | apply Zf8 | apply Ziv)
  all_goals (try simp only [std] at *)
  all_goals (try (first | with_reducible apply Z2 | with_reducible apply Zf8 | with_reducible apply Ziv | (simp only [<- List.map_append]; first | with_reducible apply Z2 | with_reducible apply Zf8 | with_reducible apply Ziv)))
  all_goals (try (first | with_reducible rfl | omega | assumption | exact dT ‹_› | exact dF ‹_› | ((first | refine rowGet ?_ | refine getC ?_ rfl); (first | omega | (simp only [std]; omega) | grind)) | (show (_ : St) = _; rfl) | grind [snocI, snocS, rowSnoc]))
abbrev Z3q (s : ByteArray) := (↑(UInt8.toNat (List.getD (Array.toList (ByteArray.data s)) 0 (0 : UInt8))) : Int)
abbrev Z8h (s : ByteArray) := (↑(UInt8.toNat (List.getD (Array.toList (ByteArray.data s)) 1 (0 : UInt8))) : Int)
theorem Zsg (s : ByteArray) : aexec Tryz.prog (Tryz.f217.body.getD .skip) (entry [] [ls s] 43) [.br [.bool true, .bool true, .bool true,
 .fin []] [.br [.bool true, .bool true, .fin []] [.call [Mode.rd] [] (AV.sv (lb (isDig (Z3q s)))), .br [.bool true, .fin []] [.br [.br
 [.call [Mode.rd] [] (AV.sv (lb (isDig (Z8h s)))), .br [.fin []] [.ghost (.sel [] [0, 3]), .loop (ByteArray.size s - 0) (Z9 s 0)
 (Zi s) [((List.all (Array.toList (ByteArray.data s)) fun b => isMk (↑(UInt8.toNat b) : Int)) = true, AEx.exit 0, Z4t s, [.fin []]), ((List.all
 (Array.toList (ByteArray.data s)) fun b => isMk (↑(UInt8.toNat b) : Int)) = false, AEx.ret, Z2d s (lb false), [.fin []])]]] [.bool false, .ghost (.sel []
 [0, 3]), .loop (ByteArray.size s - 0) (Z9 s 0) (Zi s) [((List.all (Array.toList (ByteArray.data s)) fun b => isMk (↑(UInt8.toNat b) : Int)) = true,
 AEx.exit 0, Z4t s, [.fin []]), ((List.all (Array.toList (ByteArray.data s)) fun b => isMk (↑(UInt8.toNat b) : Int)) = false, AEx.ret, Z2d s (lb false),
 [.fin []])]]] [.bool false, .bool false, .ghost (.sel [] [0, 3]), .loop (ByteArray.size s - 0) (Z9 s 0) (Zi s) [((List.all
 (Array.toList (ByteArray.data s)) fun b => isMk (↑(UInt8.toNat b) : Int)) = true, AEx.exit 0, Z4t s, [.fin []]), ((List.all (Array.toList (ByteArray.data s)) fun b
 => isMk (↑(UInt8.toNat b) : Int)) = false, AEx.ret, Z2d s (lb false), [.fin []])]]]]]] (finK Tryz.prog [ResultVar.tmp 2] [] (AV.sv (lb (isSym s)))) = (List.length
 (Array.toList (ByteArray.data s)) <= 9223372036854775807 -> (decide ((↑(List.length (Array.toList (ByteArray.data s))) : Int) < 1) = true -> true = true /\ true = true /\ true = true /\
 ObsEq [] [] /\ AV.sv (lb false) = AV.sv (lb (isSym s))) /\ (decide ((↑(List.length (Array.toList (ByteArray.data s))) : Int) < 1) = false -> List.length (Array.toList (ByteArray.data
 s)) <= 9223372036854775807 -> (decide (16 < (↑(List.length (Array.toList (ByteArray.data s))) : Int)) = true -> true = true /\ true = true /\ ObsEq [] [] /\ AV.sv (lb false) = AV.sv (lb
 (isSym s))) /\ (decide (16 < (↑(List.length (Array.toList (ByteArray.data s))) : Int)) = false -> ((0 : Int) <= 0 /\ 0 < List.length (Array.toList (ByteArray.data s))) /\ Zn6
 (Z3q s) /\ (isDig (Z3q s) = true -> true = true /\ ObsEq [] [] /\ AV.sv (lb false) = AV.sv (lb (isSym s))) /\ (isDig (Z3q s) = false -> ((0 : Int) <= 0 /\
 0 < List.length (Array.toList (ByteArray.data s))) /\ (decide ((Z3q s) = 45) = true -> List.length (Array.toList (ByteArray.data s)) <= 9223372036854775807 -> (decide (1 <
 (↑(List.length (Array.toList (ByteArray.data s))) : Int)) = true -> ((0 : Int) <= 1 /\ 1 < List.length (Array.toList (ByteArray.data s))) /\ Zn6 (Z8h s) /\ (isDig
 (Z8h s) = true -> ObsEq [] [] /\ AV.sv (lb false) = AV.sv (lb (isSym s))) /\ (isDig (Z8h s) = false -> Z67 s (li 0) = Z9 s 0 /\
 Zi s (ByteArray.size s - 0) (Z9 s 0) /\ LoopSem Tryz.prog (loopAt Tryz.f217 0) (Zi s) (Z8g s) /\ ((List.all (Array.toList
 (ByteArray.data s)) fun b => isMk (↑(UInt8.toNat b) : Int)) = true -> ObsEq [] [] /\ AV.sv (lb true) = AV.sv (lb (isSym s))) /\ ((List.all (Array.toList (ByteArray.data s)) fun b =>
 isMk (↑(UInt8.toNat b) : Int)) = false -> ObsEq [] [] /\ AV.sv (lb false) = AV.sv (lb (isSym s))) /\ True)) /\ (decide (1 < (↑(List.length (Array.toList (ByteArray.data s))) : Int)) =
 false -> false = false /\ Z67 s (li 0) = Z9 s 0 /\ Zi s (ByteArray.size s - 0) (Z9 s 0) /\ LoopSem Tryz.prog (loopAt Tryz.f217 0)
 (Zi s) (Z8g s) /\ ((List.all (Array.toList (ByteArray.data s)) fun b => isMk (↑(UInt8.toNat b) : Int)) = true -> ObsEq [] [] /\ AV.sv (lb true) = AV.sv (lb
 (isSym s))) /\ ((List.all (Array.toList (ByteArray.data s)) fun b => isMk (↑(UInt8.toNat b) : Int)) = false -> ObsEq [] [] /\ AV.sv (lb false) = AV.sv (lb (isSym s))) /\ True)) /\
 (decide ((Z3q s) = 45) = false -> false = false /\ false = false /\ Z67 s (li 0) = Z9 s 0 /\ Zi s (ByteArray.size s - 0) (Z9
 s 0) /\ LoopSem Tryz.prog (loopAt Tryz.f217 0) (Zi s) (Z8g s) /\ ((List.all (Array.toList (ByteArray.data s)) fun b => isMk (↑(UInt8.toNat b) : Int)) = true ->
 ObsEq [] [] /\ AV.sv (lb true) = AV.sv (lb (isSym s))) /\ ((List.all (Array.toList (ByteArray.data s)) fun b => isMk (↑(UInt8.toNat b) : Int)) = false -> ObsEq [] [] /\ AV.sv (lb
 false) = AV.sv (lb (isSym s))) /\ True))))) := by kernel_rfl
theorem Z9r (s : ByteArray)  : Zha s := by
  refine CallOK.ofRun wide (Zsg s) Tryz.call217 Tryz.func217 rfl rfl rfl ?_
  try delta Z3q Z8h
  with_reducible repeat' (first | apply And.intro | exact flatI | exact flatS | exact rowLens | (intro; skip) | apply obsN | apply obsC | apply obA | apply obM | apply obB | apply svA | apply tupA | apply lcA | apply lcS | apply svC | apply liC | apply lbC | apply lsC | apply vIc | apply vBc | apply vSc | apply vLc | apply mapC | apply hdI | apply Zm5 | apply Ztz | apply Zja | apply Z2 | apply Zf8 | apply Ziv)
  all_goals (try simp only [std] at *)
  all_goals (try (first | with_reducible apply Z2 | with_reducible apply Zf8 | with_reducible apply Ziv | (simp only [<- List.map_append]; first | with_reducible apply Z2 | with_reducible apply Zf8 | with_reducible apply Ziv)))
  all_goals (try (first | with_reducible rfl | omega | assumption | exact dT ‹_› | exact dF ‹_› | ((first | refine rowGet ?_ | refine getC ?_ rfl); (first | omega | (simp only [std]; omega) | grind)) | (show (_ : St) = _; rfl) | grind [isSym, snocI, snocS, rowSnoc]))
abbrev Zqm (s : ByteArray) : Prop := CallOK Tryz.prog 250 [] [ls s] [] (.sv (lb (isStr s)))
def Zdr (s : ByteArray) (x0 : SV) : St := St.mk (regsOf 29 [(0, AV.sv (ls s)), (3, AV.sv x0)]) [] 0 
def Z35 (s : ByteArray) (k : Nat) : St := Zdr s (li (k : Int)) 
abbrev Z8i (s : ByteArray) : Nat -> St -> Prop := Head (Z35 s) (fun k => k <= ByteArray.size s /\ (List.all (List.take k (Array.toList (ByteArray.data s))) fun b =>
 isStB (↑(UInt8.toNat b) : Int)) = true) fun k => ByteArray.size s - k 
def Zch (s : ByteArray) : St := St.mk (regsOf 29 [(0, AV.sv (ls s))]) [] 0 
def Z1t (s : ByteArray) (x0 : SV) : St := St.mk (regsOf 29 [(2, AV.sv x0)]) [] 0 
def Zjb (s : ByteArray) : List (Prop × AEx × St) := [((List.all (Array.toList (ByteArray.data s)) fun b => isStB (↑(UInt8.toNat b) : Int)) = true, AEx.exit 0,
 Zch s), ((List.all (Array.toList (ByteArray.data s)) fun b => isStB (↑(UInt8.toNat b) : Int)) = false, AEx.ret, Z1t s (lb false))]

theorem Zov {s : ByteArray} {k : Nat} {x0 : SV} (h0 : x0 = (li (k : Int))) : Zdr s x0 = Z35 s k := by
  rw [h0]
  rfl
theorem Zm6 {s : ByteArray} {x0 y0 : SV} (h0 : x0 = y0) : Z1t s x0 = Z1t s y0 := by rw [h0]
abbrev Zj (s : ByteArray) := (Array.toList (ByteArray.data s))
abbrev Z3r (s : ByteArray) (k : Nat) := (↑(UInt8.toNat (List.getD (Zj s) (Int.toNat (↑k : Int)) (0 : UInt8))) : Int)
theorem Zsh (s : ByteArray) (k : Nat) : aexec Tryz.prog (loopAt Tryz.f250 0) (Z35 s k) [.br [.br [.bool true, .bool true, .ghost (.sel []
 [2]), .out 1] [.br [.bool true, .ghost (.sel [] [2]), .out 1] [.br [.ghost (.sel [] [2]), .out 1] [.ghost (.sel [] [0, 3]), .goto
 (ByteArray.size s - (k + 1)) (Z35 s (k + 1))]]]] [.ghost (.sel [] [0]), .out 0]] (loopK (Z8i s) (Zjb s) (ByteArray.size s - k)) =
 (List.length (Zj s) <= 9223372036854775807 -> (decide ((k : Int) < (↑(List.length (Zj s)) : Int)) = true -> (0 <= (k : Int) /\ Int.toNat (k : Int) <
 List.length (Zj s)) /\ (decide ((Z3r s k) < 32) = true -> true = true /\ true = true /\ (List.all (Zj s) fun b => isStB (↑(UInt8.toNat b) : Int)) =
 false /\ Z1t s (lb false) = Z1t s (lb false)) /\ (decide ((Z3r s k) < 32) = false -> (0 <= (k : Int) /\ Int.toNat (k : Int) < List.length
 (Zj s)) /\ (decide (126 < (Z3r s k)) = true -> true = true /\ (List.all (Zj s) fun b => isStB (↑(UInt8.toNat b) : Int)) = false /\ Z1t s
 (lb false) = Z1t s (lb false)) /\ (decide (126 < (Z3r s k)) = false -> (0 <= (k : Int) /\ Int.toNat (k : Int) < List.length (Zj s)) /\ (decide
 ((Z3r s k) = 34) = true -> (List.all (Zj s) fun b => isStB (↑(UInt8.toNat b) : Int)) = false /\ Z1t s (lb false) = Z1t s (lb false)) /\
 (decide ((Z3r s k) = 34) = false -> rng .i64 ((k : Int) + 1) /\ ByteArray.size s - (k + 1) < ByteArray.size s - k /\ Zdr s (li ((k : Int) + 1)) =
 Z35 s (k + 1) /\ Z8i s (ByteArray.size s - (k + 1)) (Z35 s (k + 1)))))) /\ (decide ((k : Int) < (↑(List.length (Zj s)) : Int)) = false ->
 (List.all (Zj s) fun b => isStB (↑(UInt8.toNat b) : Int)) = true /\ Zch s = Zch s)) := by kernel_rfl
theorem Zwz (s : ByteArray)  : LoopSem Tryz.prog (loopAt Tryz.f250 0) (Z8i s) (Zjb s) := by
  refine LoopSem.ofHead wide fun k h => ⟨_, _, Zsh s k, ?_⟩
  try delta Zj Z3r
  have g1 := @all_stop s.data.toList (fun b => isStB b.toNat) k
  have g2 := @all_go s.data.toList (fun b => isStB b.toNat) k
  have g3 := @all_all s.data.toList (fun b => isStB b.toNat) k
  with_reducible repeat' (first | apply And.intro | exact flatI | exact flatS | exact rowLens | (intro; skip) | apply obsN | apply obsC | apply obA | apply obM | apply obB | apply svA | apply tupA | apply lcA | apply lcS | apply svC | apply liC | apply lbC | apply lsC | apply vIc | apply vBc | apply vSc | apply vLc | apply mapC | apply hdI | apply Zov | apply Zm6)
  all_goals (try simp only [std] at *)
  all_goals (try (first | with_reducible rfl | omega | assumption | exact dT ‹_› | exact dF ‹_› | ((first | refine rowGet ?_ | refine getC ?_ rfl); (first | omega | (simp only [std]; omega) | grind)) | (show (_ : St) = _; rfl) | grind [isStB, snocI, snocS, rowSnoc]))
theorem Zvw (s : ByteArray) : aexec Tryz.prog (Tryz.f250.body.getD .skip) (entry [] [ls s] 29) [.ghost (.sel [] [0, 3]), .loop
 (ByteArray.size s - 0) (Z35 s 0) (Z8i s) [((List.all (Array.toList (ByteArray.data s)) fun b => isStB (↑(UInt8.toNat b) : Int)) = true, AEx.exit 0, Zch
 s, [.fin []]), ((List.all (Array.toList (ByteArray.data s)) fun b => isStB (↑(UInt8.toNat b) : Int)) = false, AEx.ret, Z1t s (lb false), [.fin []])]] (finK
 Tryz.prog [ResultVar.tmp 2] [] (AV.sv (lb (isStr s)))) = (Zdr s (li 0) = Z35 s 0 /\ Z8i s (ByteArray.size s - 0) (Z35 s 0) /\ LoopSem Tryz.prog
 (loopAt Tryz.f250 0) (Z8i s) (Zjb s) /\ ((List.all (Array.toList (ByteArray.data s)) fun b => isStB (↑(UInt8.toNat b) : Int)) = true -> List.length (Array.toList
 (ByteArray.data s)) <= 9223372036854775807 -> ObsEq [] [] /\ AV.sv (lb (decide ((↑(List.length (Array.toList (ByteArray.data s))) : Int) <= 20))) = AV.sv (lb (isStr s))) /\ ((List.all
 (Array.toList (ByteArray.data s)) fun b => isStB (↑(UInt8.toNat b) : Int)) = false -> ObsEq [] [] /\ AV.sv (lb false) = AV.sv (lb (isStr s))) /\ True) := by kernel_rfl
theorem Zow (s : ByteArray)  : Zqm s := by
  refine CallOK.ofRun wide (Zvw s) Tryz.call250 Tryz.func250 rfl rfl rfl ?_
  with_reducible repeat' (first | apply And.intro | exact flatI | exact flatS | exact rowLens | (intro; skip) | apply obsN | apply obsC | apply obA | apply obM | apply obB | apply svA | apply tupA | apply lcA | apply lcS | apply svC | apply liC | apply lbC | apply lsC | apply vIc | apply vBc | apply vSc | apply vLc | apply mapC | apply hdI | apply Zov | apply Zwz | apply Zm6)
  all_goals (try simp only [std] at *)
  all_goals (try (first | with_reducible rfl | omega | assumption | exact dT ‹_› | exact dF ‹_› | ((first | refine rowGet ?_ | refine getC ?_ rfl); (first | omega | (simp only [std]; omega) | grind)) | (show (_ : St) = _; rfl) | grind [isStr, snocI, snocS, rowSnoc]))
abbrev Zqn (s : ByteArray) : Prop := CallOK Tryz.prog 256 [] [ls s] [] (.sv (lb (isStr s)))
def Zds (s : ByteArray) (x0 : SV) : St := St.mk (regsOf 29 [(0, AV.sv (ls s)), (3, AV.sv x0)]) [] 0 
def Z36 (s : ByteArray) (k : Nat) : St := Zds s (li (k : Int)) 
abbrev Z8j (s : ByteArray) : Nat -> St -> Prop := Head (Z36 s) (fun k => k <= ByteArray.size s /\ (List.all (List.take k (Array.toList (ByteArray.data s))) fun b =>
 isStB (↑(UInt8.toNat b) : Int)) = true) fun k => ByteArray.size s - k 
def Zci (s : ByteArray) : St := St.mk (regsOf 29 []) [] 0 
def Z1u (s : ByteArray) (x0 : SV) : St := St.mk (regsOf 29 [(2, AV.sv x0)]) [] 0 
def Zjc (s : ByteArray) : List (Prop × AEx × St) := [((List.all (Array.toList (ByteArray.data s)) fun b => isStB (↑(UInt8.toNat b) : Int)) = true, AEx.exit 0,
 Zci s), ((List.all (Array.toList (ByteArray.data s)) fun b => isStB (↑(UInt8.toNat b) : Int)) = false, AEx.ret, Z1u s (lb false))]

theorem Zox {s : ByteArray} {k : Nat} {x0 : SV} (h0 : x0 = (li (k : Int))) : Zds s x0 = Z36 s k := by
  rw [h0]
  rfl
theorem Zm7 {s : ByteArray} {x0 y0 : SV} (h0 : x0 = y0) : Z1u s x0 = Z1u s y0 := by rw [h0]
abbrev Zk (s : ByteArray) := (Array.toList (ByteArray.data s))
abbrev Z3s (s : ByteArray) (k : Nat) := (↑(UInt8.toNat (List.getD (Zk s) (Int.toNat (↑k : Int)) (0 : UInt8))) : Int)
theorem Zsi (s : ByteArray) (k : Nat) : aexec Tryz.prog (loopAt Tryz.f256 0) (Z36 s k) [.br [.br [.bool true, .bool true, .ghost (.sel []
 [2]), .out 1] [.br [.bool true, .ghost (.sel [] [2]), .out 1] [.br [.ghost (.sel [] [2]), .out 1] [.ghost (.sel [] [0, 3]), .goto
 (ByteArray.size s - (k + 1)) (Z36 s (k + 1))]]]] [.ghost (.sel [] []), .out 0]] (loopK (Z8j s) (Zjc s) (ByteArray.size s - k)) = (List.length
 (Zk s) <= 9223372036854775807 -> (decide ((k : Int) < (↑(List.length (Zk s)) : Int)) = true -> (0 <= (k : Int) /\ Int.toNat (k : Int) < List.length
 (Zk s)) /\ (decide ((Z3s s k) < 32) = true -> true = true /\ true = true /\ (List.all (Zk s) fun b => isStB (↑(UInt8.toNat b) : Int)) = false /\
 Z1u s (lb false) = Z1u s (lb false)) /\ (decide ((Z3s s k) < 32) = false -> (0 <= (k : Int) /\ Int.toNat (k : Int) < List.length (Zk s)) /\
 (decide (126 < (Z3s s k)) = true -> true = true /\ (List.all (Zk s) fun b => isStB (↑(UInt8.toNat b) : Int)) = false /\ Z1u s (lb false) =
 Z1u s (lb false)) /\ (decide (126 < (Z3s s k)) = false -> (0 <= (k : Int) /\ Int.toNat (k : Int) < List.length (Zk s)) /\ (decide ((Z3s s
 k) = 34) = true -> (List.all (Zk s) fun b => isStB (↑(UInt8.toNat b) : Int)) = false /\ Z1u s (lb false) = Z1u s (lb false)) /\ (decide
 ((Z3s s k) = 34) = false -> rng .i64 ((k : Int) + 1) /\ ByteArray.size s - (k + 1) < ByteArray.size s - k /\ Zds s (li ((k : Int) + 1)) = Z36 s
 (k + 1) /\ Z8j s (ByteArray.size s - (k + 1)) (Z36 s (k + 1)))))) /\ (decide ((k : Int) < (↑(List.length (Zk s)) : Int)) = false -> (List.all
 (Zk s) fun b => isStB (↑(UInt8.toNat b) : Int)) = true /\ Zci s = Zci s)) := by kernel_rfl
theorem Zx0 (s : ByteArray)  : LoopSem Tryz.prog (loopAt Tryz.f256 0) (Z8j s) (Zjc s) := by
  refine LoopSem.ofHead wide fun k h => ⟨_, _, Zsi s k, ?_⟩
  try delta Zk Z3s
  have g1 := @all_stop s.data.toList (fun b => isStB b.toNat) k
  have g2 := @all_go s.data.toList (fun b => isStB b.toNat) k
  have g3 := @all_all s.data.toList (fun b => isStB b.toNat) k
  with_reducible repeat' (first | apply And.intro | exact flatI | exact flatS | exact rowLens | (intro; skip) | apply obsN | apply obsC | apply obA | apply obM | apply obB | apply svA | apply tupA | apply lcA | apply lcS | apply svC | apply liC | apply lbC | apply lsC | apply vIc | apply vBc | apply vSc | apply vLc | apply mapC | apply hdI | apply Zox | apply Zm7)
  all_goals (try simp only [std] at *)
  all_goals (try (first | with_reducible rfl | omega | assumption | exact dT ‹_› | exact dF ‹_› | ((first | refine rowGet ?_ | refine getC ?_ rfl); (first | omega | (simp only [std]; omega) | grind)) | (show (_ : St) = _; rfl) | grind [isStB, snocI, snocS, rowSnoc]))
theorem Zvx (s : ByteArray) : aexec Tryz.prog (Tryz.f256.body.getD .skip) (entry [] [ls s] 29) [.br [.fin []] [.ghost (.sel [] [0, 3]),
 .loop (ByteArray.size s - 0) (Z36 s 0) (Z8j s) [((List.all (Array.toList (ByteArray.data s)) fun b => isStB (↑(UInt8.toNat b) : Int)) = true, AEx.exit 0,
 Zci s, [.fin []]), ((List.all (Array.toList (ByteArray.data s)) fun b => isStB (↑(UInt8.toNat b) : Int)) = false, AEx.ret, Z1u s (lb false), [.fin
 []])]]] (finK Tryz.prog [ResultVar.tmp 2] [] (AV.sv (lb (isStr s)))) = (List.length (Array.toList (ByteArray.data s)) <= 9223372036854775807 -> (decide (20 < (↑(List.length
 (Array.toList (ByteArray.data s))) : Int)) = true -> ObsEq [] [] /\ AV.sv (lb false) = AV.sv (lb (isStr s))) /\ (decide (20 < (↑(List.length (Array.toList (ByteArray.data s))) :
 Int)) = false -> Zds s (li 0) = Z36 s 0 /\ Z8j s (ByteArray.size s - 0) (Z36 s 0) /\ LoopSem Tryz.prog (loopAt Tryz.f256 0) (Z8j s)
 (Zjc s) /\ ((List.all (Array.toList (ByteArray.data s)) fun b => isStB (↑(UInt8.toNat b) : Int)) = true -> ObsEq [] [] /\ AV.sv (lb true) = AV.sv (lb (isStr s))) /\
 ((List.all (Array.toList (ByteArray.data s)) fun b => isStB (↑(UInt8.toNat b) : Int)) = false -> ObsEq [] [] /\ AV.sv (lb false) = AV.sv (lb (isStr s))) /\ True)) := by kernel_rfl
theorem Zoy (s : ByteArray)  : Zqn s := by
  refine CallOK.ofRun wide (Zvx s) Tryz.call256 Tryz.func256 rfl rfl rfl ?_
  with_reducible repeat' (first | apply And.intro | exact flatI | exact flatS | exact rowLens | (intro; skip) | apply obsN | apply obsC | apply obA | apply obM | apply obB | apply svA | apply tupA | apply lcA | apply lcS | apply svC | apply liC | apply lbC | apply lsC | apply vIc | apply vBc | apply vSc | apply vLc | apply mapC | apply hdI | apply Zox | apply Zx0 | apply Zm7)
  all_goals (try simp only [std] at *)
  all_goals (try (first | with_reducible rfl | omega | assumption | exact dT ‹_› | exact dF ‹_› | ((first | refine rowGet ?_ | refine getC ?_ rfl); (first | omega | (simp only [std]; omega) | grind)) | (show (_ : St) = _; rfl) | grind [isStr, snocI, snocS, rowSnoc]))
def nodD (k n : Int) (t : ByteArray) (i : Int) : Bool := decide (k = 0 /\ n = 0 /\ t.data.toList = []) || decide (k = 1 /\ n = 0 /\ isSym t = true /\ i = 0) || decide (k = 2 /\ -999999999 <= n /\ n <= 999999999 /\ t.data.toList = [] /\ i = 0) || decide (k = 3 /\ 0 <= n /\ n <= 1 /\ t.data.toList = [] /\ i = 0) || decide (k = 4 /\ n = 0 /\ isStr t = true /\ i = 0)
abbrev Zvd (k : Int) (n : Int) (t : ByteArray) (i : Int) : Prop := CallOK Tryz.prog 223 [] [li k, li n, ls t, li i] [] (.sv (lb (nodD k n t i)))
theorem Zyr (k : Int) (n : Int) (t : ByteArray) (i : Int) : aexec Tryz.prog (Tryz.f223.body.getD .skip) (entry [] [li k, li n, ls t, li i] 66) [.br
 [.br [.fin []] [.fin []]] [.br [.br [.call [Mode.rd] [] (AV.sv (lb (isSym t))), .br [.fin []] [.fin []]] [.bool false, .fin []]] [.br [.call
 [Mode.rd, Mode.rd, Mode.rd] [] (AV.sv (lb (decide ((-999999999 : Int) <= n /\ n <= 999999999)))), .br [.br [.fin []] [.fin []]] [.bool false, .fin []]] [.br
 [.call [Mode.rd, Mode.rd, Mode.rd] [] (AV.sv (lb (decide (0 <= n /\ n <= 1)))), .br [.br [.fin []] [.fin []]] [.bool false, .fin []]] [.br [.br [.call
 [Mode.rd] [] (AV.sv (lb (isStr t))), .br [.fin []] [.fin []]] [.bool false, .fin []]] [.fin []]]]]]] (finK Tryz.prog [ResultVar.tmp 8] [] (AV.sv (lb (nodD k n t
 i)))) = ((decide (k = 0) = true -> (decide (n = 0) = true -> ObsEq [] [] /\ AV.sv (lb (decide (Array.toList (ByteArray.data t) = []))) = AV.sv (lb (nodD k n t i))) /\ (decide (n = 0)
 = false -> ObsEq [] [] /\ AV.sv (lb false) = AV.sv (lb (nodD k n t i)))) /\ (decide (k = 0) = false -> (decide (k = 1) = true -> (decide (n = 0) = true -> Z5a t /\ (isSym t =
 true -> ObsEq [] [] /\ AV.sv (lb (decide (i = 0))) = AV.sv (lb (nodD k n t i))) /\ (isSym t = false -> ObsEq [] [] /\ AV.sv (lb false) = AV.sv (lb (nodD k n t i)))) /\ (decide (n = 0) =
 false -> false = false /\ ObsEq [] [] /\ AV.sv (lb false) = AV.sv (lb (nodD k n t i)))) /\ (decide (k = 1) = false -> (decide (k = 2) = true -> Z3o n (-999999999 : Int) 999999999 /\
 (decide ((-999999999 : Int) <= n /\ n <= 999999999) = true -> (decide (Array.toList (ByteArray.data t) = []) = true -> ObsEq [] [] /\ AV.sv (lb (decide (i = 0))) = AV.sv (lb (nodD k n t
 i))) /\ (decide (Array.toList (ByteArray.data t) = []) = false -> ObsEq [] [] /\ AV.sv (lb false) = AV.sv (lb (nodD k n t i)))) /\ (decide ((-999999999 : Int) <= n /\ n <= 999999999) =
 false -> false = false /\ ObsEq [] [] /\ AV.sv (lb false) = AV.sv (lb (nodD k n t i)))) /\ (decide (k = 2) = false -> (decide (k = 3) = true -> Z3o n 0 1 /\ (decide (0 <= n /\ n <= 1)
 = true -> (decide (Array.toList (ByteArray.data t) = []) = true -> ObsEq [] [] /\ AV.sv (lb (decide (i = 0))) = AV.sv (lb (nodD k n t i))) /\ (decide (Array.toList (ByteArray.data t)
 = []) = false -> ObsEq [] [] /\ AV.sv (lb false) = AV.sv (lb (nodD k n t i)))) /\ (decide (0 <= n /\ n <= 1) = false -> false = false /\ ObsEq [] [] /\ AV.sv (lb false) = AV.sv (lb (nodD k
 n t i)))) /\ (decide (k = 3) = false -> (decide (k = 4) = true -> (decide (n = 0) = true -> Zqm t /\ (isStr t = true -> ObsEq [] [] /\ AV.sv (lb (decide (i = 0))) = AV.sv (lb
 (nodD k n t i))) /\ (isStr t = false -> ObsEq [] [] /\ AV.sv (lb false) = AV.sv (lb (nodD k n t i)))) /\ (decide (n = 0) = false -> false = false /\ ObsEq [] [] /\ AV.sv (lb false) =
 AV.sv (lb (nodD k n t i)))) /\ (decide (k = 4) = false -> ObsEq [] [] /\ AV.sv (lb false) = AV.sv (lb (nodD k n t i)))))))) := by kernel_rfl
theorem Ziw (k n : Int) (t : ByteArray) (i : Int)  : Zvd k n t i := by
  refine CallOK.ofRun wide (Zyr k n t i) Tryz.call223 Tryz.func223 rfl rfl rfl ?_
  with_reducible repeat' (first | apply And.intro | exact flatI | exact flatS | exact rowLens | (intro; skip) | apply obsN | apply obsC | apply obA | apply obM | apply obB | apply svA | apply tupA | apply lcA | apply lcS | apply svC | apply liC | apply lbC | apply lsC | apply vIc | apply vBc | apply vSc | apply vLc | apply mapC | apply Z2 | apply Z9q | apply Zow)
  all_goals (try simp only [std] at *)
  all_goals (try (first | with_reducible apply Z2 | with_reducible apply Z9q | with_reducible apply Zow | (simp only [<- List.map_append]; first | with_reducible apply Z2 | with_reducible apply Z9q | with_reducible apply Zow)))
  all_goals (try (first | with_reducible rfl | omega | assumption | exact dT ‹_› | exact dF ‹_› | ((first | refine rowGet ?_ | refine getC ?_ rfl); (first | omega | (simp only [std]; omega) | grind)) | (show (_ : St) = _; rfl) | grind [nodD, snocI, snocS, rowSnoc]))
abbrev Zve (k : Int) (n : Int) (t : ByteArray) (i : Int) : Prop := CallOK Tryz.prog 227 [] [li k, li n, ls t, li i] [] (.sv (lb (nodD k n t i)))
abbrev Zia (k : Int) (n : Int) (t : ByteArray) (i : Int) := (decide (Array.toList (ByteArray.data t) = []) = true → ObsEq [] [] ∧ AV.sv (lb (decide (i = 0))) = AV.sv (lb
 (nodD k n t i)))
abbrev Zib (k : Int) (n : Int) (t : ByteArray) (i : Int) := (decide (Array.toList (ByteArray.data t) = []) = false → ObsEq [] [] ∧ AV.sv (lb false) = AV.sv (lb (nodD k n t
 i)))
theorem Zys (k : Int) (n : Int) (t : ByteArray) (i : Int) : aexec Tryz.prog (Tryz.f227.body.getD .skip) (entry [] [li k, li n, ls t, li i] 74) [.br
 [.br [.fin []] [.fin []]] [.br [.br [.br [.call [Mode.rd] [] (AV.sv (lb (isSym t))), .fin []] [.fin []]] [.bool false, .fin []]] [.br [.br
 [.br [.br [.fin []] [.fin []]] [.bool false, .fin []]] [.bool false, .bool false, .fin []]] [.br [.br [.bool true, .br [.fin []] [.fin
 []]] [.br [.br [.fin []] [.fin []]] [.bool false, .fin []]]] [.br [.br [.br [.call [Mode.rd] [] (AV.sv (lb (isStr t))), .fin []] [.fin []]]
 [.bool false, .fin []]] [.fin []]]]]]] (finK Tryz.prog [ResultVar.tmp 8] [] (AV.sv (lb (nodD k n t i)))) = ((decide (k = 0) = true -> (decide (n = 0) = true -> ObsEq [] []
 /\ AV.sv (lb (decide (Array.toList (ByteArray.data t) = []))) = AV.sv (lb (nodD k n t i))) /\ (decide (n = 0) = false -> ObsEq [] [] /\ AV.sv (lb false) = AV.sv (lb (nodD k n t i))))
 /\ (decide (k = 0) = false -> (decide (k = 1) = true -> (decide (n = 0) = true -> (decide (i = 0) = true -> Zha t /\ ObsEq [] [] /\ AV.sv (lb (isSym t)) = AV.sv (lb (nodD k n t
 i))) /\ (decide (i = 0) = false -> ObsEq [] [] /\ AV.sv (lb false) = AV.sv (lb (nodD k n t i)))) /\ (decide (n = 0) = false -> false = false /\ ObsEq [] [] /\ AV.sv (lb false) = AV.sv
 (lb (nodD k n t i)))) /\ (decide (k = 1) = false -> (decide (k = 2) = true -> (decide ((-999999999 : Int) <= n) = true -> (decide (n <= 999999999) = true -> (Zia k n t i) /\
 (Zib k n t i)) /\ (decide (n <= 999999999) = false -> false = false /\ ObsEq [] [] /\ AV.sv (lb false) = AV.sv (lb (nodD k n t i)))) /\ (decide ((-999999999 : Int) <= n) = false ->
 false = false /\ false = false /\ ObsEq [] [] /\ AV.sv (lb false) = AV.sv (lb (nodD k n t i)))) /\ (decide (k = 2) = false -> (decide (k = 3) = true -> (decide (n = 0) = true -> true =
 true /\ (Zia k n t i) /\ (Zib k n t i)) /\ (decide (n = 0) = false -> (decide (n = 1) = true -> (Zia k n t i) /\ (Zib k n t i)) /\ (decide (n = 1) = false ->
 false = false /\ ObsEq [] [] /\ AV.sv (lb false) = AV.sv (lb (nodD k n t i))))) /\ (decide (k = 3) = false -> (decide (k = 4) = true -> (decide (n = 0) = true -> (decide (i = 0) = true
 -> Zqn t /\ ObsEq [] [] /\ AV.sv (lb (isStr t)) = AV.sv (lb (nodD k n t i))) /\ (decide (i = 0) = false -> ObsEq [] [] /\ AV.sv (lb false) = AV.sv (lb (nodD k n t i)))) /\
 (decide (n = 0) = false -> false = false /\ ObsEq [] [] /\ AV.sv (lb false) = AV.sv (lb (nodD k n t i)))) /\ (decide (k = 4) = false -> ObsEq [] [] /\ AV.sv (lb false) = AV.sv (lb (nodD
 k n t i)))))))) := by kernel_rfl
theorem Zix (k n : Int) (t : ByteArray) (i : Int)  : Zve k n t i := by
  refine CallOK.ofRun wide (Zys k n t i) Tryz.call227 Tryz.func227 rfl rfl rfl ?_
  try delta Zia Zib
  with_reducible repeat' (first | apply And.intro | exact flatI | exact flatS | exact rowLens | (intro; skip) | apply obsN | apply obsC | apply obA | apply obM | apply obB | apply svA | apply tupA | apply lcA | apply lcS | apply svC | apply liC | apply lbC | apply lsC | apply vIc | apply vBc | apply vSc | apply vLc | apply mapC | apply Z9r | apply Zoy)
  all_goals (try simp only [std] at *)
  all_goals (try (first | with_reducible apply Z9r | with_reducible apply Zoy | (simp only [<- List.map_append]; first | with_reducible apply Z9r | with_reducible apply Zoy)))
  all_goals (try (first | with_reducible rfl | omega | assumption | exact dT ‹_› | exact dF ‹_› | ((first | refine rowGet ?_ | refine getC ?_ rfl); (first | omega | (simp only [std]; omega) | grind)) | (show (_ : St) = _; rfl) | grind [nodD, snocI, snocS, rowSnoc]))
end Go.Proofs.YtegbadciefljcaaGreat
end
section
namespace Go.Proofs.YtegbadciefljcaaGreat
open Go Go.Proofs.YtegbadciefljcaaGreat.Ab
set_option linter.unusedVariables false
set_option linter.unusedSimpArgs false
set_option maxHeartbeats 4000000
def kindS (n : Int) : Int := if 1 <= n /\ n <= 99999 then (if n % 3 = 0 then 3 else n % 3) else 0
theorem kindS_zero {n : Int} : kindS n = 0 ↔ ¬ (1 <= n /\ n <= 99999) := by unfold kindS; split <;> (try split) <;> omega
def okScN (L : List Int) : Nat -> Bool
  | 0 => true
  | k + 1 => okScN L k && decide (1 <= L.getD k default /\ L.getD k default <= 99999) && (decide (k = 0) || decide (L.getD (k - 1) default < L.getD k default))
def okSc (L : List Int) : Bool := okScN L L.length
theorem okScN_le (L : List Int) : ∀ (m k : Nat), k <= m -> okScN L m = true -> okScN L k = true
  | 0, k, h, _ => by
    obtain rfl : k = 0 := by omega
    rfl
  | m + 1, k, h, ht => by
    by_cases e : k = m + 1
    . rw [e]; exact ht
    . refine okScN_le L m k (by omega) ?_
      simp only [okScN, Bool.and_eq_true] at ht; exact ht.1.1
abbrev Zvf (n : Int) : Prop := CallOK Tryz.prog 186 [] [li n] [] (.sv (li (kindS n)))
theorem Zyt (n : Int) : aexec Tryz.prog (Tryz.f186.body.getD .skip) (entry [] [li n] 11) [.call [Mode.rd, Mode.rd, Mode.rd] [] (AV.sv (lb (decide (1 <=
 n /\ n <= 99999)))), .br [.fin []] [.cells (intC (List.getD [3, 1, 2] (Int.toNat (Int.tmod n 3)) 0)), .fin []]] (finK Tryz.prog [ResultVar.tmp 2] [] (AV.sv (li (kindS
 n)))) = (Z3o n 1 99999 /\ ((!decide (1 <= n /\ n <= 99999)) = true -> ObsEq [] [] /\ AV.sv (li 0) = AV.sv (li (kindS n))) /\ ((!decide (1 <= n /\ n <= 99999)) = false -> (3 : Int) ≠ 0 /\
 (0 <= Int.tmod n 3 /\ Int.toNat (Int.tmod n 3) < 3) /\ [[cI 3], [cI 1], [cI 2]][Int.toNat (Int.tmod n 3)]? = some [cI (List.getD [3, 1, 2] (Int.toNat (Int.tmod n 3)) 0)] /\ ObsEq []
 [] /\ AV.sv (li (List.getD [3, 1, 2] (Int.toNat (Int.tmod n 3)) 0)) = AV.sv (li (kindS n)))) := by kernel_rfl
theorem Ziy (n : Int)  : Zvf n := by
  refine CallOK.ofRun wide (Zyt n) Tryz.call186 Tryz.func186 rfl rfl rfl ?_
  with_reducible repeat' (first | apply And.intro | exact flatI | exact flatS | exact rowLens | (intro; skip) | apply obsN | apply obsC | apply obA | apply obM | apply obB | apply svA | apply tupA | apply lcA | apply lcS | apply svC | apply liC | apply lbC | apply lsC | apply vIc | apply vBc | apply vSc | apply vLc | apply mapC | apply Z2)
  all_goals (try simp only [std] at *)
  all_goals (try (first | with_reducible apply Z2 | (simp only [<- List.map_append]; first | with_reducible apply Z2)))
  all_goals (try (first | with_reducible rfl | omega | assumption | exact dT ‹_› | exact dF ‹_› | ((first | refine rowGet ?_ | refine getC ?_ rfl); (first | omega | (simp only [std]; omega) | grind)) | (show (_ : St) = _; rfl) | grind [kindS, snocI, snocS, rowSnoc]))
abbrev Zvg (n : Int) : Prop := CallOK Tryz.prog 190 [] [li n] [] (.sv (li (kindS n)))
theorem Zyu (n : Int) : aexec Tryz.prog (Tryz.f190.body.getD .skip) (entry [] [li n] 15) [.br [.bool true, .fin []] [.br [.fin []] [.br
 [.fin []] [.br [.fin []] [.fin []]]]]] (finK Tryz.prog [ResultVar.tmp 2] [] (AV.sv (li (kindS n)))) = ((decide (n < 1) = true -> true = true /\ ObsEq [] [] /\ AV.sv (li
 0) = AV.sv (li (kindS n))) /\ (decide (n < 1) = false -> (decide (99999 < n) = true -> ObsEq [] [] /\ AV.sv (li 0) = AV.sv (li (kindS n))) /\ (decide (99999 < n) = false -> (3 : Int) ≠
 0 /\ (decide (Int.tmod n (3 : Int) = 1) = true -> ObsEq [] [] /\ AV.sv (li 1) = AV.sv (li (kindS n))) /\ (decide (Int.tmod n (3 : Int) = 1) = false -> (decide (Int.tmod n (3 : Int) =
 2) = true -> ObsEq [] [] /\ AV.sv (li 2) = AV.sv (li (kindS n))) /\ (decide (Int.tmod n (3 : Int) = 2) = false -> ObsEq [] [] /\ AV.sv (li 3) = AV.sv (li (kindS n))))))) := by
 kernel_rfl
theorem Ziz (n : Int)  : Zvg n := by
  refine CallOK.ofRun wide (Zyu n) Tryz.call190 Tryz.func190 rfl rfl rfl ?_
  with_reducible repeat' (first | apply And.intro | exact flatI | exact flatS | exact rowLens | (intro; skip) | apply obsN | apply obsC | apply obA | apply obM | apply obB | apply svA | apply tupA | apply lcA | apply lcS | apply svC | apply liC | apply lbC | apply lsC | apply vIc | apply vBc | apply vSc | apply vLc | apply mapC)
  all_goals (try simp only [std] at *)
  all_goals (try (first | with_reducible rfl | omega | assumption | exact dT ‹_› | exact dF ‹_› | ((first | refine rowGet ?_ | refine getC ?_ rfl); (first | omega | (simp only [std]; omega) | grind)) | (show (_ : St) = _; rfl) | grind [kindS, snocI, snocS, rowSnoc]))
abbrev Z9s (L : List Int) : Prop := CallOK Tryz.prog 212 [] [ll (L.map intC)] [] (.sv (lb (okSc L)))
def Zat (L : List Int) (x0 : SV) : St := St.mk (regsOf 29 [(0, AV.sv (ll (List.map intC L))), (5, AV.sv (ll (List.map intC L))), (6, AV.sv (li (↑(List.length (List.map
 intC L)) : Int))), (7, AV.sv x0)]) [] 0 
def Z10 (L : List Int) (k : Nat) : St := Zat L (li (k : Int)) 
abbrev Z6s (L : List Int) : Nat -> St -> Prop := Head (Z10 L) (fun k => k <= List.length L /\ List.length L <= 9223372036854775807 /\ okScN L k = true) fun k =>
 List.length L - k 
def Zcj (L : List Int) : St := St.mk (regsOf 29 []) [] 0 
def Z3j (L : List Int) (x0 : SV) : St := St.mk (regsOf 29 [(2, AV.sv x0)]) [] 0 
def Zjd (L : List Int) : List (Prop × AEx × St) := [(okSc L = true, AEx.exit 0, Zcj L), (okSc L = false, AEx.ret, Z3j L (lb false))]

theorem Zoz {L : List Int} {k : Nat} {x0 : SV} (h0 : x0 = (li (k : Int))) : Zat L x0 = Z10 L k := by
  rw [h0]
  rfl
theorem Zm8 {L : List Int} {x0 y0 : SV} (h0 : x0 = y0) : Z3j L x0 = Z3j L y0 := by rw [h0]
theorem Zsj (L : List Int) (k : Nat) : aexec Tryz.prog (loopAt Tryz.f212 0) (Z10 L k) [.br [.cells (intC (List.getD L k default)), .call [Mode.rd] []
 (AV.sv (li (kindS (List.getD L k 0)))), .br [.bool true, .ghost (.sel [] [2]), .out 1] [.br [.cells (intC (List.getD L (Int.toNat ((k : Int) - 1))
 default)), .br [.ghost (.sel [] [2]), .out 1] [.ghost (.sel [] [0, 5, 6, 7]), .goto (List.length L - (k + 1)) (Z10 L (k + 1))]] [.bool false,
 .ghost (.sel [] [0, 5, 6, 7]), .goto (List.length L - (k + 1)) (Z10 L (k + 1))]]] [.ghost (.sel [] []), .out 0]] (loopK (Z6s L)
 (Zjd L) (List.length L - k)) = ((decide ((k : Int) < (↑(List.length (List.map intC L)) : Int)) = true -> (0 <= (k : Int) /\ (List.map intC L)[Int.toNat (k : Int)]? = some
 [cI (List.getD L k 0)]) /\ Zvf (List.getD L k 0) /\ (decide (kindS (List.getD L k 0) = 0) = true -> true = true /\ okSc L = false /\ Z3j L (lb false) = Z3j L
 (lb false)) /\ (decide (kindS (List.getD L k 0) = 0) = false -> (decide (0 < (k : Int)) = true -> rng .i64 ((k : Int) - 1) /\ (0 <= (k : Int) - 1 /\ (List.map intC
 L)[Int.toNat ((k : Int) - 1)]? = some [cI (List.getD L (Int.toNat ((k : Int) - 1)) 0)]) /\ (decide (List.getD L k 0 <= List.getD L (Int.toNat ((k : Int) - 1)) 0) = true -> okSc L
 = false /\ Z3j L (lb false) = Z3j L (lb false)) /\ (decide (List.getD L k 0 <= List.getD L (Int.toNat ((k : Int) - 1)) 0) = false -> rng .i64 ((k : Int) +
 1) /\ List.length L - (k + 1) < List.length L - k /\ Zat L (li ((k : Int) + 1)) = Z10 L (k + 1) /\ Z6s L (List.length L - (k + 1)) (Z10 L (k +
 1)))) /\ (decide (0 < (k : Int)) = false -> false = false /\ rng .i64 ((k : Int) + 1) /\ List.length L - (k + 1) < List.length L - k /\ Zat L (li ((k : Int) + 1)) =
 Z10 L (k + 1) /\ Z6s L (List.length L - (k + 1)) (Z10 L (k + 1))))) /\ (decide ((k : Int) < (↑(List.length (List.map intC L)) : Int)) = false -> okSc L =
 true /\ Zcj L = Zcj L)) := by kernel_rfl
theorem Zx1 (L : List Int)  : LoopSem Tryz.prog (loopAt Tryz.f212 0) (Z6s L) (Zjd L) := by
  refine LoopSem.ofHead wide fun k h => ⟨_, _, Zsj L k, ?_⟩
  have g1 := okScN_le L L.length (k + 1)
  have g2 := @kindS_zero (L.getD k 0)
  have e : ((k : Int) - 1).toNat = k - 1 := by omega
  have g3 : okScN L (k + 1) = (okScN L k && decide (1 <= L.getD k 0 /\ L.getD k 0 <= 99999) && (decide (k = 0) || decide (L.getD (k - 1) 0 < L.getD k 0))) := rfl
  with_reducible repeat' (first | apply And.intro | exact flatI | exact flatS | exact rowLens | (intro; skip) | apply obsN | apply obsC | apply obA | apply obM | apply obB | apply svA | apply tupA | apply lcA | apply lcS | apply svC | apply liC | apply lbC | apply lsC | apply vIc | apply vBc | apply vSc | apply vLc | apply mapC | apply hdI | apply Zoz | apply Zm8 | apply Ziy)
  all_goals (try simp only [std] at *)
  all_goals (try (first | with_reducible apply Ziy | (simp only [<- List.map_append]; first | with_reducible apply Ziy)))
  all_goals (try (first | with_reducible rfl | omega | assumption | exact dT ‹_› | exact dF ‹_› | ((first | refine rowGet ?_ | refine getC ?_ rfl); (first | omega | (simp only [std]; omega) | grind)) | (show (_ : St) = _; rfl) | grind [okSc, snocI, snocS, rowSnoc]))
theorem Zvy (L : List Int) : aexec Tryz.prog (Tryz.f212.body.getD .skip) (entry [] [ll (List.map intC L)] 29) [.ghost (.sel [] [0, 5, 6, 7]),
 .loop (List.length L - 0) (Z10 L 0) (Z6s L) [(okSc L = true, AEx.exit 0, Zcj L, [.fin []]), (okSc L = false, AEx.ret, Z3j L (lb false),
 [.fin []])]] (finK Tryz.prog [ResultVar.tmp 2] [] (AV.sv (lb (okSc L)))) = (List.length (List.map intC L) <= 9223372036854775807 -> Zat L (li 0) = Z10 L 0 /\
 Z6s L (List.length L - 0) (Z10 L 0) /\ LoopSem Tryz.prog (loopAt Tryz.f212 0) (Z6s L) (Zjd L) /\ (okSc L = true -> ObsEq [] [] /\ AV.sv (lb true) =
 AV.sv (lb (okSc L))) /\ (okSc L = false -> ObsEq [] [] /\ AV.sv (lb false) = AV.sv (lb (okSc L))) /\ True) := by kernel_rfl
theorem Z7l (L : List Int)  : Z9s L := by
  refine CallOK.ofRun wide (Zvy L) Tryz.call212 Tryz.func212 rfl rfl rfl ?_
  with_reducible repeat' (first | apply And.intro | exact flatI | exact flatS | exact rowLens | (intro; skip) | apply obsN | apply obsC | apply obA | apply obM | apply obB | apply svA | apply tupA | apply lcA | apply lcS | apply svC | apply liC | apply lbC | apply lsC | apply vIc | apply vBc | apply vSc | apply vLc | apply mapC | apply hdI | apply Zoz | apply Zx1 | apply Zm8 | apply Ziy)
  all_goals (try simp only [std] at *)
  all_goals (try (first | with_reducible apply Ziy | (simp only [<- List.map_append]; first | with_reducible apply Ziy)))
  all_goals (try (first | with_reducible rfl | omega | assumption | exact dT ‹_› | exact dF ‹_› | ((first | refine rowGet ?_ | refine getC ?_ rfl); (first | omega | (simp only [std]; omega) | grind)) | (show (_ : St) = _; rfl) | grind [okScN, snocI, snocS, rowSnoc]))
abbrev Zfy (L : List Int) : Prop := CallOK Tryz.prog 218 [] [ll (L.map intC)] [] (.sv (lb (okSc L)))
def Zau (L : List Int) (x0 : SV) : St := St.mk (regsOf 29 [(0, AV.sv (ll (List.map intC L))), (5, AV.sv (ll (List.map intC L))), (6, AV.sv (li (↑(List.length (List.map
 intC L)) : Int))), (7, AV.sv x0)]) [] 0 
def Z11 (L : List Int) (k : Nat) : St := Zau L (li (k : Int)) 
abbrev Z6t (L : List Int) : Nat -> St -> Prop := Head (Z11 L) (fun k => k <= List.length L /\ List.length L <= 9223372036854775807 /\ okScN L k = true) fun k =>
 List.length L - k 
def Zck (L : List Int) : St := St.mk (regsOf 29 []) [] 0 
def Z3k (L : List Int) (x0 : SV) : St := St.mk (regsOf 29 [(2, AV.sv x0)]) [] 0 
def Zje (L : List Int) : List (Prop × AEx × St) := [(okSc L = true, AEx.exit 0, Zck L), (okSc L = false, AEx.ret, Z3k L (lb false))]

theorem Zp0 {L : List Int} {k : Nat} {x0 : SV} (h0 : x0 = (li (k : Int))) : Zau L x0 = Z11 L k := by
  rw [h0]
  rfl
theorem Zm9 {L : List Int} {x0 y0 : SV} (h0 : x0 = y0) : Z3k L x0 = Z3k L y0 := by rw [h0]
theorem Zsk (L : List Int) (k : Nat) : aexec Tryz.prog (loopAt Tryz.f218 0) (Z11 L k) [.br [.cells (intC (List.getD L k default)), .call [Mode.rd] []
 (AV.sv (li (kindS (List.getD L k 0)))), .br [.bool true, .ghost (.sel [] [2]), .out 1] [.br [.cells (intC (List.getD L (Int.toNat ((k : Int) - 1))
 default)), .br [.ghost (.sel [] [2]), .out 1] [.ghost (.sel [] [0, 5, 6, 7]), .goto (List.length L - (k + 1)) (Z11 L (k + 1))]] [.bool false,
 .ghost (.sel [] [0, 5, 6, 7]), .goto (List.length L - (k + 1)) (Z11 L (k + 1))]]] [.ghost (.sel [] []), .out 0]] (loopK (Z6t L)
 (Zje L) (List.length L - k)) = ((decide ((k : Int) < (↑(List.length (List.map intC L)) : Int)) = true -> (0 <= (k : Int) /\ (List.map intC L)[Int.toNat (k : Int)]? = some
 [cI (List.getD L k 0)]) /\ Zvg (List.getD L k 0) /\ (decide (kindS (List.getD L k 0) = 0) = true -> true = true /\ okSc L = false /\ Z3k L (lb false) = Z3k L
 (lb false)) /\ (decide (kindS (List.getD L k 0) = 0) = false -> (decide (0 < (k : Int)) = true -> rng .i64 ((k : Int) - 1) /\ (0 <= (k : Int) - 1 /\ (List.map intC
 L)[Int.toNat ((k : Int) - 1)]? = some [cI (List.getD L (Int.toNat ((k : Int) - 1)) 0)]) /\ (decide (List.getD L k 0 <= List.getD L (Int.toNat ((k : Int) - 1)) 0) = true -> okSc L
 = false /\ Z3k L (lb false) = Z3k L (lb false)) /\ (decide (List.getD L k 0 <= List.getD L (Int.toNat ((k : Int) - 1)) 0) = false -> rng .i64 ((k : Int) +
 1) /\ List.length L - (k + 1) < List.length L - k /\ Zau L (li ((k : Int) + 1)) = Z11 L (k + 1) /\ Z6t L (List.length L - (k + 1)) (Z11 L (k +
 1)))) /\ (decide (0 < (k : Int)) = false -> false = false /\ rng .i64 ((k : Int) + 1) /\ List.length L - (k + 1) < List.length L - k /\ Zau L (li ((k : Int) + 1)) =
 Z11 L (k + 1) /\ Z6t L (List.length L - (k + 1)) (Z11 L (k + 1))))) /\ (decide ((k : Int) < (↑(List.length (List.map intC L)) : Int)) = false -> okSc L =
 true /\ Zck L = Zck L)) := by kernel_rfl
theorem Zx2 (L : List Int)  : LoopSem Tryz.prog (loopAt Tryz.f218 0) (Z6t L) (Zje L) := by
  refine LoopSem.ofHead wide fun k h => ⟨_, _, Zsk L k, ?_⟩
  have g1 := okScN_le L L.length (k + 1)
  have g2 := @kindS_zero (L.getD k 0)
  have e : ((k : Int) - 1).toNat = k - 1 := by omega
  have g3 : okScN L (k + 1) = (okScN L k && decide (1 <= L.getD k 0 /\ L.getD k 0 <= 99999) && (decide (k = 0) || decide (L.getD (k - 1) 0 < L.getD k 0))) := rfl
  with_reducible repeat' (first | apply And.intro | exact flatI | exact flatS | exact rowLens | (intro; skip) | apply obsN | apply obsC | apply obA | apply obM | apply obB | apply svA | apply tupA | apply lcA | apply lcS | apply svC | apply liC | apply lbC | apply lsC | apply vIc | apply vBc | apply vSc | apply vLc | apply mapC | apply hdI | apply Zp0 | apply Zm9 | apply Ziz)
  all_goals (try simp only [std] at *)
  all_goals (try (first | with_reducible apply Ziz | (simp only [<- List.map_append]; first | with_reducible apply Ziz)))
  all_goals (try (first | with_reducible rfl | omega | assumption | exact dT ‹_› | exact dF ‹_› | ((first | refine rowGet ?_ | refine getC ?_ rfl); (first | omega | (simp only [std]; omega) | grind)) | (show (_ : St) = _; rfl) | grind [okSc, snocI, snocS, rowSnoc]))
theorem Zvz (L : List Int) : aexec Tryz.prog (Tryz.f218.body.getD .skip) (entry [] [ll (List.map intC L)] 29) [.ghost (.sel [] [0, 5, 6, 7]),
 .loop (List.length L - 0) (Z11 L 0) (Z6t L) [(okSc L = true, AEx.exit 0, Zck L, [.fin []]), (okSc L = false, AEx.ret, Z3k L (lb false),
 [.fin []])]] (finK Tryz.prog [ResultVar.tmp 2] [] (AV.sv (lb (okSc L)))) = (List.length (List.map intC L) <= 9223372036854775807 -> Zau L (li 0) = Z11 L 0 /\
 Z6t L (List.length L - 0) (Z11 L 0) /\ LoopSem Tryz.prog (loopAt Tryz.f218 0) (Z6t L) (Zje L) /\ (okSc L = true -> ObsEq [] [] /\ AV.sv (lb true) =
 AV.sv (lb (okSc L))) /\ (okSc L = false -> ObsEq [] [] /\ AV.sv (lb false) = AV.sv (lb (okSc L))) /\ True) := by kernel_rfl
theorem Z7m (L : List Int)  : Zfy L := by
  refine CallOK.ofRun wide (Zvz L) Tryz.call218 Tryz.func218 rfl rfl rfl ?_
  with_reducible repeat' (first | apply And.intro | exact flatI | exact flatS | exact rowLens | (intro; skip) | apply obsN | apply obsC | apply obA | apply obM | apply obB | apply svA | apply tupA | apply lcA | apply lcS | apply svC | apply liC | apply lbC | apply lsC | apply vIc | apply vBc | apply vSc | apply vLc | apply mapC | apply hdI | apply Zp0 | apply Zx2 | apply Zm9 | apply Ziz)
  all_goals (try simp only [std] at *)
  all_goals (try (first | with_reducible apply Ziz | (simp only [<- List.map_append]; first | with_reducible apply Ziz)))
  all_goals (try (first | with_reducible rfl | omega | assumption | exact dT ‹_› | exact dF ‹_› | ((first | refine rowGet ?_ | refine getC ?_ rfl); (first | omega | (simp only [std]; omega) | grind)) | (show (_ : St) = _; rfl) | grind [okScN, snocI, snocS, rowSnoc]))
def nodY0 (k n : Int) (t : ByteArray) (s : List Int) (i : Int) : Bool := nodD k n t i && okSc s && (decide ((s.length : Int) = 0) || decide (k = 1))
mutual
def sizeY : Syntax -> Nat
  | ⟨_, _, _, _, l⟩ => sizeYs l + 1
def sizeYs : List Syntax -> Nat
  | [] => 0
  | c :: r => sizeY c + sizeYs r
end
theorem sizeYs_eq : ∀ l, sizeYs l = sumBy sizeY l
  | [] => by simp [sizeYs, sumBy]
  | c :: r => by rw [sizeYs, sumBy, sizeYs_eq r]
theorem sizeY_eq (c : Syntax) : sizeY c = sumBy sizeY c.items + 1 := by cases c; simp only [sizeY, sizeYs_eq]
mutual
def depY : Syntax -> Nat
  | ⟨_, _, _, _, l⟩ => depYs l + 1
def depYs : List Syntax -> Nat
  | [] => 0
  | c :: r => max (depY c) (depYs r)
end
theorem depYs_eq : ∀ l, depYs l = maxBy depY l
  | [] => by simp [depYs, maxBy]
  | c :: r => by rw [depYs, maxBy, depYs_eq r]
theorem depY_eq (c : Syntax) : depY c = maxBy depY c.items + 1 := by cases c; simp only [depY, depYs_eq]
theorem depY_le : ∀ c : Syntax, depY c <= sizeY c := by
  refine Syntax.ind fun c ih => ?_
  have := maxBy_sum ih
  rw [sizeY_eq, depY_eq]; omega
mutual
def okY : Syntax -> Bool
  | ⟨k, n, t, s, l⟩ => okYs l && nodY0 k n t s l.length
def okYs : List Syntax -> Bool
  | [] => true
  | c :: r => okY c && okYs r
end
theorem okYs_eq : ∀ l, okYs l = l.all okY
  | [] => by simp [okYs]
  | c :: r => by rw [okYs, okYs_eq r]; rfl
theorem okY_eq (c : Syntax) : okY c = (c.items.all okY && nodY0 c.kind c.number c.text c.scopes c.items.length) := by cases c; simp only [okY, okYs_eq]
def isSyn (d : Syntax) : Bool := decide (sizeY d <= 2000) && decide (depY d <= 40) && okY d
mutual
def meaY : Syntax -> Int -> Int -> Bool × Int
  | ⟨k, n, t, s, l⟩, deep, m => if deep <= 40 /\ m + 1 <= 2000 /\ nodY0 k n t s l.length = true then meaYs l (deep + 1) (m + 1) else (false, m + 1)
def meaYs : List Syntax -> Int -> Int -> Bool × Int
  | [], _, m => (true, m)
  | x :: r, deep, m => if (meaY x deep m).1 then meaYs r deep (meaY x deep m).2 else (false, (meaY x deep m).2)
end
theorem meaYs_eq : ∀ l deep m, meaYs l deep m = scan (fun x m => meaY x deep m) l m
  | [], _, _ => by simp [meaYs, scan]
  | x :: r, deep, m => by simp only [meaYs, scan, meaYs_eq r]
theorem meaY_eq (c : Syntax) (deep m : Int) : meaY c deep m = if deep <= 40 /\ m + 1 <= 2000 /\ nodY0 c.kind c.number c.text c.scopes c.items.length = true then scan (fun x m => meaY x (deep + 1) m) c.items (m + 1) else (false, m + 1) := by cases c; simp only [meaY, meaYs_eq]
theorem meaY_of : ∀ (c : Syntax) (deep m : Int), m <= 2000 -> ((meaY c deep m).1 = true ↔ (m + sizeY c <= 2000 /\ (deep + depY c <= 41 /\ okY c = true))) /\ ((meaY c deep m).1 = true -> (meaY c deep m).2 = m + sizeY c) := by
  refine Syntax.ind fun c ih deep m hm => ?_
  rw [meaY_eq, sizeY_eq, depY_eq, okY_eq, Bool.and_eq_true, List.all_eq_true]
  by_cases h : deep <= 40 /\ m + 1 <= 2000 /\ nodY0 c.kind c.number c.text c.scopes c.items.length = true
  . rw [if_pos h]
    have h1 := scan_of (fun x m => meaY x (deep + 1) m) sizeY (fun x => deep + 1 + depY x <= 41 /\ okY x = true) 2000 c.items (fun x hx m hm => ih x hx (deep + 1) m hm) (m + 1) h.2.1
    have h2 := maxBy_le depY (m := (40 - deep).toNat) (L := c.items)
    constructor
    . rw [h1.1]
      constructor
      . rintro ⟨a, b⟩
        have := h2.2 fun x hx => by have := (b x hx).1; omega
        exact ⟨by omega, by omega, fun x hx => (b x hx).2, h.2.2⟩
      . rintro ⟨a, b, d, e⟩
        have := h2.1 (by omega)
        exact ⟨by omega, fun x hx => ⟨by have := this x hx; omega, d x hx⟩⟩
    . intro ht; rw [h1.2 ht]; omega
  . rw [if_neg h]
    refine ⟨⟨fun e => Bool.noConfusion e, ?_⟩, fun e => Bool.noConfusion e⟩
    rintro ⟨a, b, d, e⟩
    exact absurd ⟨by omega, by omega, e⟩ h
theorem meaY_isSyn (d : Syntax) : (meaY d 1 0).1 = isSyn d := by
  have h := (meaY_of d 1 0 (by decide)).1
  rw [Bool.eq_iff_iff, h]
  simp only [isSyn, Bool.and_eq_true, decide_eq_true_eq, and_assoc]
  constructor
  . rintro ⟨a, b, e⟩; exact ⟨by omega, by omega, e⟩
  . rintro ⟨a, b, e⟩; exact ⟨by omega, by omega, e⟩
abbrev Zav (d : Syntax) (l : Int) : Prop := CallOK Tryz.prog 167 [.box [vI l]] [syntaxA d, .one (.ptr 0 0)] [.box [vI (max (l - sizeY d) (-1))]] (.sv (lb (decide (sizeY d <= l))))
def Zdt (d : Syntax) (l : Int) (x0 : SV) (x1 : AC) : St := St.mk (regsOf 36 [(1, AV.sv (SV.one (AC.ptr 0 0))), (2, AV.sv (SV.one (AC.ptr 1 0))), (5, AV.sv x0)]) [Ob.box
 [x1], Ob.box (vals (syntaxF d))] 1 
def Z37 (d : Syntax) (l : Int) (k : Nat) : St := Zdt d l (li (k : Int)) (vI (max (l - 1 - (↑(sumBy sizeY (List.take k (Syntax.items d))) : Int)) (-1 : Int))) 
abbrev Z8k (d : Syntax) (l : Int) : Nat -> St -> Prop := Head (Z37 d l) (fun k => List.length (Syntax.items d) >= k) fun k => List.length (Syntax.items d) - k 
def Z3l (d : Syntax) (l : Int) (x0 : AC) : St := St.mk (regsOf 36 [(1, AV.sv (SV.one (AC.ptr 0 0)))]) [Ob.box [x0]] 1 
def Zjf (d : Syntax) (l : Int) : List (Prop × AEx × St) := [(True, AEx.exit 0, Z3l d l (vI (max (l - (↑(sizeY d) : Int)) (-1 : Int))))]

theorem Zp1 {d : Syntax} {l : Int} {k : Nat} {x0 : SV} {x1 : AC} (h0 : x0 = (li (k : Int))) (h1 : x1 = (vI (max (l - 1 - (↑(sumBy sizeY (List.take k (Syntax.items d))) :
 Int)) (-1 : Int)))) : Zdt d l x0 x1 = Z37 d l k := by
  rw [h0, h1]
  rfl
theorem Zma {d : Syntax} {l : Int} {x0 y0 : AC} (h0 : x0 = y0) : Z3l d l x0 = Z3l d l y0 := by rw [h0]
abbrev Z22 (d : Syntax) (l : Int) (k : Nat) := (l - 1 - (↑(sumBy sizeY (List.take k (Syntax.items d))) : Int))
theorem Zsl (d : Syntax) (l : Int) (k : Nat) : aexec Tryz.prog (loopAt Tryz.f167 0) (Z37 d l k) [.br [.br [.cells (syntaxF (List.getD (Syntax.items d)
 k default)), .call [Mode.rd, Mode.ptr] [Ob.box [vI (max (max (Z22 d l k) (-1 : Int) - (↑(sizeY (List.getD (Syntax.items d) k default)) : Int)) (-1 : Int))]] (AV.sv
 (lb (decide ((↑(sizeY (List.getD (Syntax.items d) k default)) : Int) <= max (Z22 d l k) (-1 : Int))))), .ghost (.sel [0, 1] [1, 2, 5]), .goto (List.length
 (Syntax.items d) - (k + 1)) (Z37 d l (k + 1))] [.ghost (.sel [0] [1]), .out 0]] [.bool false, .ghost (.sel [0] [1]), .out 0]] (loopK
 (Z8k d l) (Zjf d l) (List.length (Syntax.items d) - k)) = (List.length (List.map syntaxC (Syntax.items d)) <= 9223372036854775807 -> (decide ((k : Int) <
 (↑(List.length (List.map syntaxC (Syntax.items d))) : Int)) = true -> (decide (0 <= max (Z22 d l k) (-1 : Int)) = true -> (0 <= (k : Int) /\ (List.map syntaxC (Syntax.items
 d))[Int.toNat (k : Int)]? = some (syntaxF (List.getD (Syntax.items d) k default))) /\ Zav (List.getD (Syntax.items d) k default) (max (Z22 d l k) (-1 : Int)) /\
 rng .i64 ((k : Int) + 1) /\ List.length (Syntax.items d) - (k + 1) < List.length (Syntax.items d) - k /\ Zdt d l (li ((k : Int) + 1)) (vI (max (max (Z22
 d l k) (-1 : Int) - (↑(sizeY (List.getD (Syntax.items d) k default)) : Int)) (-1 : Int))) = Z37 d l (k + 1) /\ Z8k d l (List.length (Syntax.items d) - (k + 1))
 (Z37 d l (k + 1))) /\ (decide (0 <= max (Z22 d l k) (-1 : Int)) = false -> True /\ Z3l d l (vI (max (Z22 d l k) (-1 : Int))) = Z3l d
 l (vI (max (l - (↑(sizeY d) : Int)) (-1 : Int))))) /\ (decide ((k : Int) < (↑(List.length (List.map syntaxC (Syntax.items d))) : Int)) = false -> false = false /\ True /\
 Z3l d l (vI (max (Z22 d l k) (-1 : Int))) = Z3l d l (vI (max (l - (↑(sizeY d) : Int)) (-1 : Int))))) := by kernel_rfl
theorem Zx3 (d : Syntax) (l : Int) (h : 0 <= l /\ l <= 1000000) (ih : ∀ (z : Syntax), z ∈ Syntax.items d -> ∀ (l : Int), 0 <= l /\ l <= 1000000 -> Zav z l)  : LoopSem
 Tryz.prog (loopAt Tryz.f167 0) (Z8k d l) (Zjf d l) := by
  refine LoopSem.ofHead wide fun k h => ⟨_, _, Zsl d l k, ?_⟩
  try delta Z22
  have g1 := sizeY_eq d
  have g2 := sumBy_takeLe sizeY d.items k
  have g3 := @sumBy_step _ _ sizeY d.items k
  with_reducible repeat' (first | apply And.intro | exact flatI | exact flatS | exact rowLens | exact ih | (intro; skip) | apply obsN | apply obsC | apply obA | apply obM | apply obB | apply svA | apply tupA | apply lcA | apply lcS | apply svC | apply liC | apply lbC | apply lsC | apply vIc | apply vBc | apply vSc | apply vLc | apply mapC | apply hdI | apply Zp1 | apply Zma | apply ih)
  all_goals (try simp only [std] at *)
  all_goals (try (first | with_reducible apply ih | (simp only [<- List.map_append]; first | with_reducible apply ih)))
  all_goals (try (first | with_reducible rfl | omega | assumption | exact dT ‹_› | exact dF ‹_› | ((first | refine rowGet ?_ | refine getC ?_ rfl); (first | omega | (simp only [std]; omega) | grind)) | (show (_ : St) = _; rfl) | grind [getD_mem', snocI, snocS, rowSnoc]))
theorem Zw0 (d : Syntax) (l : Int) : aexec Tryz.prog (Tryz.f167.body.getD .skip) (entry [Ob.box [vI l]] [syntaxA d, SV.one (AC.ptr 0 0)] 36) [.ghost
 (.sel [0, 1] [1, 2, 5]), .loop (List.length (Syntax.items d) - 0) (Z37 d l 0) (Z8k d l) [(True, AEx.exit 0, Z3l d l (vI (max (l - (↑(sizeY d) :
 Int)) (-1 : Int))), [.fin []])]] (finK Tryz.prog [ResultVar.tmp 4] [Ob.box [vI (max (l - (↑(sizeY d) : Int)) (-1 : Int))]] (AV.sv (lb (decide ((↑(sizeY d) : Int) <= l))))) =
 (rng .i64 (l - 1) /\ Zdt d l (li 0) (vI (l - 1)) = Z37 d l 0 /\ Z8k d l (List.length (Syntax.items d) - 0) (Z37 d l 0) /\ LoopSem Tryz.prog
 (loopAt Tryz.f167 0) (Z8k d l) (Zjf d l) /\ (True -> ObsEq [Ob.box [vI (max (l - (↑(sizeY d) : Int)) (-1 : Int))]] [Ob.box [vI (max (l - (↑(sizeY d) : Int)) (-1 :
 Int))]] /\ AV.sv (lb (decide (0 <= max (l - (↑(sizeY d) : Int)) (-1 : Int)))) = AV.sv (lb (decide ((↑(sizeY d) : Int) <= l)))) /\ True) := by kernel_rfl
theorem Z10s (d : Syntax) (l : Int) (h : 0 <= l /\ l <= 1000000) (ih : ∀ z ∈ d.items, ∀ (l : Int) (h : 0 <= l /\ l <= 1000000), Zav z l)  : Zav d l := by
  refine CallOK.ofRun wide (Zw0 d l) Tryz.call167 Tryz.func167 rfl rfl rfl ?_
  have g1 := sizeY_eq d
  have g2 : sumBy sizeY (d.items.take 0) = 0 := rfl
  with_reducible repeat' (first | apply And.intro | exact flatI | exact flatS | exact rowLens | exact ih | (intro; skip) | apply obsN | apply obsC | apply obA | apply obM | apply obB | apply svA | apply tupA | apply lcA | apply lcS | apply svC | apply liC | apply lbC | apply lsC | apply vIc | apply vBc | apply vSc | apply vLc | apply mapC | apply hdI | apply Zp1 | apply Zx3 | apply Zma)
  all_goals (try simp only [std] at *)
  all_goals (try (first | with_reducible apply ih | (simp only [<- List.map_append]; first | with_reducible apply ih)))
  all_goals (try (first | with_reducible rfl | omega | assumption | exact dT ‹_› | exact dF ‹_› | ((first | refine rowGet ?_ | refine getC ?_ rfl); (first | omega | (simp only [std]; omega) | grind)) | (show (_ : St) = _; rfl) | grind [snocI, snocS, rowSnoc]))
theorem Zu0 (d : Syntax) : ∀ (l : Int) (h : 0 <= l /\ l <= 1000000), Zav d l := Syntax.ind (P := fun d => ∀ (l : Int) (h : 0 <= l /\ l <= 1000000), Zav d l) (fun d ih l h => Z10s d l h ih) d
abbrev Zaw (d : Syntax) : Prop := CallOK Tryz.prog 168 [] [syntaxA d] [] (.sv (li (depY d)))
def Zdu (d : Syntax) (x0 : SV) (x1 : SV) : St := St.mk (regsOf 20 [(3, AV.sv x1), (7, AV.sv (ll (List.map syntaxC (Syntax.items d)))), (8, AV.sv (li (↑(List.length
 (List.map syntaxC (Syntax.items d))) : Int))), (9, AV.sv x0)]) [] 0 
def Z38 (d : Syntax) (k : Nat) : St := Zdu d (li (k : Int)) (li (↑(maxBy depY (List.take k (Syntax.items d))) : Int)) 
abbrev Z8l (d : Syntax) : Nat -> St -> Prop := Head (Z38 d) (fun k => k <= List.length (Syntax.items d) /\ List.length (Syntax.items d) <= 9223372036854775807) fun k =>
 List.length (Syntax.items d) - k 
def Z70 (d : Syntax) (x0 : SV) : St := St.mk (regsOf 20 [(3, AV.sv x0)]) [] 0 
def Zjg (d : Syntax) : List (Prop × AEx × St) := [(True, AEx.exit 0, Z70 d (li (↑(maxBy depY (Syntax.items d)) : Int)))]

theorem Zp2 {d : Syntax} {k : Nat} {x0 : SV} {x1 : SV} (h0 : x0 = (li (k : Int))) (h1 : x1 = (li (↑(maxBy depY (List.take k (Syntax.items d))) : Int))) : Zdu d
 x0 x1 = Z38 d k := by
  rw [h0, h1]
  rfl
theorem Zmb {d : Syntax} {x0 y0 : SV} (h0 : x0 = y0) : Z70 d x0 = Z70 d y0 := by rw [h0]
theorem Zsm (d : Syntax) (k : Nat) : aexec Tryz.prog (loopAt Tryz.f168 0) (Z38 d k) [.br [.cells (syntaxF (List.getD (Syntax.items d) k default)),
 .call [Mode.rd] [] (AV.sv (li (↑(depY (List.getD (Syntax.items d) k default)) : Int))), .ghost (.sel [] [3, 7, 8, 9]), .goto (List.length (Syntax.items d) - (k + 1))
 (Z38 d (k + 1))] [.ghost (.sel [] [3]), .out 0]] (loopK (Z8l d) (Zjg d) (List.length (Syntax.items d) - k)) = ((decide ((k : Int) <
 (↑(List.length (List.map syntaxC (Syntax.items d))) : Int)) = true -> (0 <= (k : Int) /\ (List.map syntaxC (Syntax.items d))[Int.toNat (k : Int)]? = some (syntaxF (List.getD
 (Syntax.items d) k default))) /\ Zaw (List.getD (Syntax.items d) k default) /\ rng .i64 ((k : Int) + 1) /\ List.length (Syntax.items d) - (k + 1) < List.length
 (Syntax.items d) - k /\ Zdu d (li ((k : Int) + 1)) (li (max (↑(maxBy depY (List.take k (Syntax.items d))) : Int) (↑(depY (List.getD (Syntax.items d) k default)) : Int)))
 = Z38 d (k + 1) /\ Z8l d (List.length (Syntax.items d) - (k + 1)) (Z38 d (k + 1))) /\ (decide ((k : Int) < (↑(List.length (List.map syntaxC (Syntax.items
 d))) : Int)) = false -> True /\ Z70 d (li (↑(maxBy depY (List.take k (Syntax.items d))) : Int)) = Z70 d (li (↑(maxBy depY (Syntax.items d)) : Int)))) := by
 kernel_rfl
theorem Zx4 (d : Syntax) (h : sizeY d <= 2147483647) (ih : ∀ (z : Syntax), z ∈ Syntax.items d -> sizeY z <= 2147483647 -> Zaw z)  : LoopSem Tryz.prog (loopAt Tryz.f168
 0) (Z8l d) (Zjg d) := by
  refine LoopSem.ofHead wide fun k h => ⟨_, _, Zsm d k, ?_⟩
  have g1 := sizeY_eq d
  have g2 := @sumBy_mem _ sizeY d.items (d.items.getD k default)
  with_reducible repeat' (first | apply And.intro | exact flatI | exact flatS | exact rowLens | exact ih | (intro; skip) | apply obsN | apply obsC | apply obA | apply obM | apply obB | apply svA | apply tupA | apply lcA | apply lcS | apply svC | apply liC | apply lbC | apply lsC | apply vIc | apply vBc | apply vSc | apply vLc | apply mapC | apply hdI | apply Zp2 | apply Zmb | apply ih)
  all_goals (try simp only [std] at *)
  all_goals (try (first | with_reducible apply ih | (simp only [<- List.map_append]; first | with_reducible apply ih)))
  all_goals (try (first | with_reducible rfl | omega | assumption | exact dT ‹_› | exact dF ‹_› | ((first | refine rowGet ?_ | refine getC ?_ rfl); (first | omega | (simp only [std]; omega) | grind)) | (show (_ : St) = _; rfl) | grind [maxBy_step, getD_mem', snocI, snocS, rowSnoc]))
theorem Zw1 (d : Syntax) : aexec Tryz.prog (Tryz.f168.body.getD .skip) (entry [] [syntaxA d] 20) [.ghost (.sel [] [3, 7, 8, 9]), .loop
 (List.length (Syntax.items d) - 0) (Z38 d 0) (Z8l d) [(True, AEx.exit 0, Z70 d (li (↑(maxBy depY (Syntax.items d)) : Int)), [.fin []])]] (finK
 Tryz.prog [ResultVar.tmp 2] [] (AV.sv (li (↑(depY d) : Int)))) = (List.length (List.map syntaxC (Syntax.items d)) <= 9223372036854775807 -> Zdu d (li 0) (li 0) =
 Z38 d 0 /\ Z8l d (List.length (Syntax.items d) - 0) (Z38 d 0) /\ LoopSem Tryz.prog (loopAt Tryz.f168 0) (Z8l d) (Zjg d) /\ (True -> rng
 IntKind.i64 ((↑(maxBy depY (Syntax.items d)) : Int) + 1) /\ ObsEq [] [] /\ AV.sv (li ((↑(maxBy depY (Syntax.items d)) : Int) + 1)) = AV.sv (li (↑(depY d) : Int))) /\ True) := by
 kernel_rfl
theorem Z10t (d : Syntax) (h : sizeY d <= 2147483647) (ih : ∀ z ∈ d.items, ∀ (h : sizeY z <= 2147483647), Zaw z)  : Zaw d := by
  refine CallOK.ofRun wide (Zw1 d) Tryz.call168 Tryz.func168 rfl rfl rfl ?_
  have h1 := depY_le d
  have g2 : maxBy depY (d.items.take 0) = 0 := rfl
  with_reducible repeat' (first | apply And.intro | exact flatI | exact flatS | exact rowLens | exact ih | (intro; skip) | apply obsN | apply obsC | apply obA | apply obM | apply obB | apply svA | apply tupA | apply lcA | apply lcS | apply svC | apply liC | apply lbC | apply lsC | apply vIc | apply vBc | apply vSc | apply vLc | apply mapC | apply hdI | apply Zp2 | apply Zx4 | apply Zmb)
  all_goals (try simp only [std] at *)
  all_goals (try (first | with_reducible apply ih | (simp only [<- List.map_append]; first | with_reducible apply ih)))
  all_goals (try (first | with_reducible rfl | omega | assumption | exact dT ‹_› | exact dF ‹_› | ((first | refine rowGet ?_ | refine getC ?_ rfl); (first | omega | (simp only [std]; omega) | grind)) | (show (_ : St) = _; rfl) | grind [depY_eq, snocI, snocS, rowSnoc]))
theorem Zu1 (d : Syntax) : ∀ (h : sizeY d <= 2147483647), Zaw d := Syntax.ind (P := fun d => ∀ (h : sizeY d <= 2147483647), Zaw d) (fun d ih h => Z10t d h ih) d
abbrev Zd6 (d : Syntax) : Prop := CallOK Tryz.prog 169 [] [syntaxA d] [] (.sv (lb (okY d)))
def Zfz (d : Syntax) (x0 : SV) : St := St.mk (regsOf 42 [(1, AV.sv (SV.one (AC.ptr 0 0))), (6, AV.sv (ll (List.map syntaxC (Syntax.items d)))), (7, AV.sv (li (↑(List.length
 (List.map syntaxC (Syntax.items d))) : Int))), (8, AV.sv x0)]) [Ob.box (vals (syntaxF d))] 0 
def Z44 (d : Syntax) (k : Nat) : St := Zfz d (li (k : Int)) 
abbrev Z9t (d : Syntax) : Nat -> St -> Prop := Head (Z44 d) (fun k => k <= List.length (Syntax.items d) /\ List.length (Syntax.items d) <= 9223372036854775807 /\ List.all
 (List.take k (Syntax.items d)) okY = true) fun k => List.length (Syntax.items d) - k 
def Zdv (d : Syntax) : St := St.mk (regsOf 42 [(1, AV.sv (SV.one (AC.ptr 0 0)))]) [Ob.box (vals (syntaxF d))] 0 
def Z8m (d : Syntax) (x0 : SV) : St := St.mk (regsOf 42 [(2, AV.sv x0)]) [] 0 
def Zl8 (d : Syntax) : List (Prop × AEx × St) := [(List.all (Syntax.items d) okY = true, AEx.exit 0, Zdv d), (List.all (Syntax.items d) okY = false, AEx.ret,
 Z8m d (lb false))]

theorem Zqo {d : Syntax} {k : Nat} {x0 : SV} (h0 : x0 = (li (k : Int))) : Zfz d x0 = Z44 d k := by
  rw [h0]
  rfl
theorem Zo0 {d : Syntax} {x0 y0 : SV} (h0 : x0 = y0) : Z8m d x0 = Z8m d y0 := by rw [h0]
theorem Zu2 (d : Syntax) (k : Nat) : aexec Tryz.prog (loopAt Tryz.f169 0) (Z44 d k) [.br [.cells (syntaxF (List.getD (Syntax.items d) k default)), .call
 [Mode.rd] [] (AV.sv (lb (okY (List.getD (Syntax.items d) k default)))), .br [.ghost (.sel [] [2]), .out 1] [.ghost (.sel [0] [1, 6, 7, 8]), .goto
 (List.length (Syntax.items d) - (k + 1)) (Z44 d (k + 1))]] [.ghost (.sel [0] [1]), .out 0]] (loopK (Z9t d) (Zl8 d) (List.length (Syntax.items d)
 - k)) = ((decide ((k : Int) < (↑(List.length (List.map syntaxC (Syntax.items d))) : Int)) = true -> (0 <= (k : Int) /\ (List.map syntaxC (Syntax.items d))[Int.toNat (k : Int)]? =
 some (syntaxF (List.getD (Syntax.items d) k default))) /\ Zd6 (List.getD (Syntax.items d) k default) /\ ((!okY (List.getD (Syntax.items d) k default)) = true -> List.all
 (Syntax.items d) okY = false /\ Z8m d (lb false) = Z8m d (lb false)) /\ ((!okY (List.getD (Syntax.items d) k default)) = false -> rng .i64 ((k : Int) + 1) /\
 List.length (Syntax.items d) - (k + 1) < List.length (Syntax.items d) - k /\ Zfz d (li ((k : Int) + 1)) = Z44 d (k + 1) /\ Z9t d (List.length (Syntax.items
 d) - (k + 1)) (Z44 d (k + 1)))) /\ (decide ((k : Int) < (↑(List.length (List.map syntaxC (Syntax.items d))) : Int)) = false -> List.all (Syntax.items d) okY = true /\
 Zdv d = Zdv d)) := by kernel_rfl
theorem Zyv (d : Syntax) (ih : ∀ (z : Syntax), z ∈ Syntax.items d -> Zd6 z)  : LoopSem Tryz.prog (loopAt Tryz.f169 0) (Z9t d) (Zl8 d) := by
  refine LoopSem.ofHead wide fun k h => ⟨_, _, Zu2 d k, ?_⟩
  with_reducible repeat' (first | apply And.intro | exact flatI | exact flatS | exact rowLens | exact ih | (intro; skip) | apply obsN | apply obsC | apply obA | apply obM | apply obB | apply svA | apply tupA | apply lcA | apply lcS | apply svC | apply liC | apply lbC | apply lsC | apply vIc | apply vBc | apply vSc | apply vLc | apply mapC | apply hdI | apply Zqo | apply Zo0 | apply Ziw | apply Z7l | apply ih)
  all_goals (try simp only [std] at *)
  all_goals (try (first | with_reducible apply Ziw | with_reducible apply Z7l | with_reducible apply ih | (simp only [<- List.map_append]; first | with_reducible apply Ziw | with_reducible apply Z7l | with_reducible apply ih)))
  all_goals (try (first | with_reducible rfl | omega | assumption | exact dT ‹_› | exact dF ‹_› | ((first | refine rowGet ?_ | refine getC ?_ rfl); (first | omega | (simp only [std]; omega) | grind)) | (show (_ : St) = _; rfl) | grind [take_get, getD_mem', snocI, snocS, rowSnoc]))
abbrev Zc5 (d : Syntax) := (↑(List.length (List.map syntaxC (Syntax.items d))) : Int)
theorem Zx5 (d : Syntax) : aexec Tryz.prog (Tryz.f169.body.getD .skip) (entry [] [syntaxA d] 42) [.ghost (.sel [0] [1, 6, 7, 8]), .loop
 (List.length (Syntax.items d) - 0) (Z44 d 0) (Z9t d) [(List.all (Syntax.items d) okY = true, AEx.exit 0, Zdv d, [.call [Mode.rd, Mode.rd, Mode.rd,
 Mode.rd] [] (AV.sv (lb (nodD (Syntax.kind d) (Syntax.number d) (Syntax.text d) (Zc5 d)))), .br [.call [Mode.rd] [] (AV.sv (lb (okSc (Syntax.scopes d)))), .br
 [.br [.fin []] [.fin []]] [.fin []]] [.bool false, .fin []]]), (List.all (Syntax.items d) okY = false, AEx.ret, Z8m d (lb false), [.fin []])]] (finK
 Tryz.prog [ResultVar.tmp 2] [] (AV.sv (lb (okY d)))) = (List.length (List.map syntaxC (Syntax.items d)) <= 9223372036854775807 -> Zfz d (li 0) = Z44 d 0 /\
 Z9t d (List.length (Syntax.items d) - 0) (Z44 d 0) /\ LoopSem Tryz.prog (loopAt Tryz.f169 0) (Z9t d) (Zl8 d) /\ (List.all (Syntax.items d) okY = true
 -> List.length (List.map syntaxC (Syntax.items d)) <= 9223372036854775807 -> Zvd (Syntax.kind d) (Syntax.number d) (Syntax.text d) (Zc5 d) /\ (nodD (Syntax.kind d)
 (Syntax.number d) (Syntax.text d) (Zc5 d) = true -> Z9s (Syntax.scopes d) /\ (okSc (Syntax.scopes d) = true -> List.length (List.map intC (Syntax.scopes d)) <=
 9223372036854775807 -> (decide ((↑(List.length (List.map intC (Syntax.scopes d))) : Int) = 0) = true -> ObsEq [] [] /\ AV.sv (lb true) = AV.sv (lb (okY d))) /\ (decide ((↑(List.length
 (List.map intC (Syntax.scopes d))) : Int) = 0) = false -> ObsEq [] [] /\ AV.sv (lb (decide (Syntax.kind d = 1))) = AV.sv (lb (okY d)))) /\ (okSc (Syntax.scopes d) = false -> ObsEq []
 [] /\ AV.sv (lb false) = AV.sv (lb (okY d)))) /\ (nodD (Syntax.kind d) (Syntax.number d) (Syntax.text d) (Zc5 d) = false -> false = false /\ ObsEq [] [] /\ AV.sv (lb false) =
 AV.sv (lb (okY d)))) /\ (List.all (Syntax.items d) okY = false -> ObsEq [] [] /\ AV.sv (lb false) = AV.sv (lb (okY d))) /\ True) := by kernel_rfl
theorem Z115 (d : Syntax) (ih : ∀ z ∈ d.items, Zd6 z)  : Zd6 d := by
  refine CallOK.ofRun wide (Zx5 d) Tryz.call169 Tryz.func169 rfl rfl rfl ?_
  try delta Zc5
  with_reducible repeat' (first | apply And.intro | exact flatI | exact flatS | exact rowLens | exact ih | (intro; skip) | apply obsN | apply obsC | apply obA | apply obM | apply obB | apply svA | apply tupA | apply lcA | apply lcS | apply svC | apply liC | apply lbC | apply lsC | apply vIc | apply vBc | apply vSc | apply vLc | apply mapC | apply hdI | apply Zqo | apply Zyv | apply Zo0 | apply Ziw | apply Z7l)
  all_goals (try simp only [std] at *)
  all_goals (try (first | with_reducible apply Ziw | with_reducible apply Z7l | with_reducible apply ih | (simp only [<- List.map_append]; first | with_reducible apply Ziw | with_reducible apply Z7l | with_reducible apply ih)))
  all_goals (try (first | with_reducible rfl | omega | assumption | exact dT ‹_› | exact dF ‹_› | ((first | refine rowGet ?_ | refine getC ?_ rfl); (first | omega | (simp only [std]; omega) | grind)) | (show (_ : St) = _; rfl) | grind [okY_eq, nodY0, snocI, snocS, rowSnoc]))
theorem Zx6 (d : Syntax) : Zd6 d := Syntax.ind (P := fun d => Zd6 d) (fun d ih => Z115 d ih) d
abbrev Zcl (d : Syntax) : Prop := CallOK Tryz.prog 94 [] [syntaxA d] [] (.sv (lb (isSyn d)))
theorem Zsn (d : Syntax) : aexec Tryz.prog (Tryz.f94.body.getD .skip) (entry [] [syntaxA d] 15) [.call [Mode.rd, Mode.ptr] [Ob.box [vI (max (2000 -
 (↑(sizeY d) : Int)) (-1 : Int))]] (AV.sv (lb (decide ((↑(sizeY d) : Int) <= 2000)))), .br [.call [Mode.rd] [] (AV.sv (li (↑(depY d) : Int))), .br [.call [Mode.rd] []
 (AV.sv (lb (okY d))), .fin []] [.fin []]] [.bool false, .fin []]] (finK Tryz.prog [ResultVar.tmp 2] [] (AV.sv (lb (isSyn d)))) = (Zav d 2000 /\ (decide ((↑(sizeY
 d) : Int) <= 2000) = true -> Zaw d /\ (decide ((↑(depY d) : Int) <= 40) = true -> Zd6 d /\ ObsEq [] [] /\ AV.sv (lb (okY d)) = AV.sv (lb (isSyn d))) /\ (decide ((↑(depY d) :
 Int) <= 40) = false -> ObsEq [] [] /\ AV.sv (lb false) = AV.sv (lb (isSyn d)))) /\ (decide ((↑(sizeY d) : Int) <= 2000) = false -> false = false /\ ObsEq [] [] /\ AV.sv (lb false) = AV.sv
 (lb (isSyn d)))) := by kernel_rfl
theorem Zp (d : Syntax)  : Zcl d := by
  refine CallOK.ofRun wide (Zsn d) Tryz.call94 Tryz.func94 rfl rfl rfl ?_
  with_reducible repeat' (first | apply And.intro | exact flatI | exact flatS | exact rowLens | (intro; skip) | apply obsN | apply obsC | apply obA | apply obM | apply obB | apply svA | apply tupA | apply lcA | apply lcS | apply svC | apply liC | apply lbC | apply lsC | apply vIc | apply vBc | apply vSc | apply vLc | apply mapC | apply Zu0 | apply Zu1 | apply Zx6)
  all_goals (try simp only [std] at *)
  all_goals (try (first | with_reducible apply Zu0 | with_reducible apply Zu1 | with_reducible apply Zx6 | (simp only [<- List.map_append]; first | with_reducible apply Zu0 | with_reducible apply Zu1 | with_reducible apply Zx6)))
  all_goals (try (first | with_reducible rfl | omega | assumption | exact dT ‹_› | exact dF ‹_› | ((first | refine rowGet ?_ | refine getC ?_ rfl); (first | omega | (simp only [std]; omega) | grind)) | (show (_ : St) = _; rfl) | grind [isSyn, snocI, snocS, rowSnoc]))
abbrev Zax (d : Syntax) (deep : Int) (q : Int) : Prop := CallOK Tryz.prog 174 [.box [vI q]] [syntaxA d, li deep, .one (.ptr 0 0)] [.box [vI (meaY d deep q).2]] (.sv (lb (meaY d deep q).1))
def Zay (d : Syntax) (deep : Int) (q : Int) (x0 : SV) (x1 : AC) : St := St.mk (regsOf 64 [(1, AV.sv (li deep)), (2, AV.sv (SV.one (AC.ptr 0 0))), (51, AV.sv (ll (List.map
 syntaxC (Syntax.items d)))), (52, AV.sv (li (↑(List.length (List.map syntaxC (Syntax.items d))) : Int))), (53, AV.sv x0)]) [Ob.box [x1]] 1 
def Z12 (d : Syntax) (deep : Int) (q : Int) (k : Nat) : St := Zay d deep q (li (k : Int)) (vI (Prod.snd (scan (fun x m => meaY x (deep + 1) m) (List.take k
 (Syntax.items d)) (q + 1)))) 
abbrev Z39 (d : Syntax) (deep : Int) (q : Int) : Nat -> St -> Prop := Head (Z12 d deep q) (fun k => k <= List.length (Syntax.items d) /\ List.length (Syntax.items d) <=
 9223372036854775807 /\ deep <= 40 /\ Prod.fst (scan (fun x m => meaY x (deep + 1) m) (List.take k (Syntax.items d)) (q + 1)) = true /\ q <= Prod.snd (scan (fun x m => meaY x (deep + 1)
 m) (List.take k (Syntax.items d)) (q + 1)) /\ Prod.snd (scan (fun x m => meaY x (deep + 1) m) (List.take k (Syntax.items d)) (q + 1)) <= 2000) fun k => List.length (Syntax.items d)
 - k 
def Z5b (d : Syntax) (deep : Int) (q : Int) (x0 : AC) : St := St.mk (regsOf 64 []) [Ob.box [x0]] 1 
def Z5c (d : Syntax) (deep : Int) (q : Int) (x0 : SV) (x1 : AC) : St := St.mk (regsOf 64 [(6, AV.sv x0)]) [Ob.box [x1]] 1 
def Zdw (d : Syntax) (deep : Int) (q : Int) : List (Prop × AEx × St) := [(Prod.fst (scan (fun x m => meaY x (deep + 1) m) (Syntax.items d) (q + 1)) = true, AEx.exit 0,
 Z5b d deep q (vI (Prod.snd (scan (fun x m => meaY x (deep + 1) m) (Syntax.items d) (q + 1))))), (Prod.fst (scan (fun x m => meaY x (deep + 1) m) (Syntax.items d) (q +
 1)) = false, AEx.ret, Z5c d deep q (lb false) (vI (Prod.snd (scan (fun x m => meaY x (deep + 1) m) (Syntax.items d) (q + 1)))))]

theorem Zp3 {d : Syntax} {deep : Int} {q : Int} {k : Nat} {x0 : SV} {x1 : AC} (h0 : x0 = (li (k : Int))) (h1 : x1 = (vI (Prod.snd (scan (fun x m => meaY x (deep + 1) m)
 (List.take k (Syntax.items d)) (q + 1))))) : Zay d deep q x0 x1 = Z12 d deep q k := by
  rw [h0, h1]
  rfl
theorem Zmc {d : Syntax} {deep : Int} {q : Int} {x0 y0 : AC} (h0 : x0 = y0) : Z5b d deep q x0 = Z5b d deep q y0 := by rw [h0]
theorem Zmd {d : Syntax} {deep : Int} {q : Int} {x0 y0 : SV} {x1 y1 : AC} (h0 : x0 = y0) (h1 : x1 = y1) : Z5c d deep q x0 x1 = Z5c d deep q y0 y1 :=
 by rw [h0, h1]
abbrev Z1a (d : Syntax) (k : Nat) := (List.getD (Syntax.items d) k default)
theorem Zso (d : Syntax) (deep : Int) (q : Int) (k : Nat) : aexec Tryz.prog (loopAt Tryz.f174 0) (Z12 d deep q k) [.br [.cells (syntaxF (Z1a d
 k)), .call [Mode.rd, Mode.rd, Mode.ptr] [Ob.box [vI (Prod.snd (meaY (Z1a d k) (deep + 1) (Prod.snd (scan (fun x m => meaY x (deep + 1) m) (List.take k (Syntax.items
 d)) (q + 1)))))]] (AV.sv (lb (Prod.fst (meaY (Z1a d k) (deep + 1) (Prod.snd (scan (fun x m => meaY x (deep + 1) m) (List.take k (Syntax.items d)) (q + 1))))))), .br
 [.ghost (.sel [0] [6]), .out 1] [.ghost (.sel [0] [1, 2, 51, 52, 53]), .goto (List.length (Syntax.items d) - (k + 1)) (Z12 d deep q (k + 1))]]
 [.ghost (.sel [0] []), .out 0]] (loopK (Z39 d deep q) (Zdw d deep q) (List.length (Syntax.items d) - k)) = ((decide ((k : Int) < (↑(List.length
 (List.map syntaxC (Syntax.items d))) : Int)) = true -> (0 <= (k : Int) /\ (List.map syntaxC (Syntax.items d))[Int.toNat (k : Int)]? = some (syntaxF (Z1a d k))) /\ rng
 IntKind.i64 (deep + 1) /\ Zax (Z1a d k) (deep + 1) (Prod.snd (scan (fun x m => meaY x (deep + 1) m) (List.take k (Syntax.items d)) (q + 1))) /\ ((!Prod.fst (meaY
 (Z1a d k) (deep + 1) (Prod.snd (scan (fun x m => meaY x (deep + 1) m) (List.take k (Syntax.items d)) (q + 1))))) = true -> Prod.fst (scan (fun x m => meaY x (deep + 1)
 m) (Syntax.items d) (q + 1)) = false /\ Z5c d deep q (lb false) (vI (Prod.snd (meaY (Z1a d k) (deep + 1) (Prod.snd (scan (fun x m => meaY x (deep + 1) m)
 (List.take k (Syntax.items d)) (q + 1)))))) = Z5c d deep q (lb false) (vI (Prod.snd (scan (fun x m => meaY x (deep + 1) m) (Syntax.items d) (q + 1))))) /\ ((!Prod.fst
 (meaY (Z1a d k) (deep + 1) (Prod.snd (scan (fun x m => meaY x (deep + 1) m) (List.take k (Syntax.items d)) (q + 1))))) = false -> rng .i64 ((k : Int) + 1) /\
 List.length (Syntax.items d) - (k + 1) < List.length (Syntax.items d) - k /\ Zay d deep q (li ((k : Int) + 1)) (vI (Prod.snd (meaY (Z1a d k) (deep + 1)
 (Prod.snd (scan (fun x m => meaY x (deep + 1) m) (List.take k (Syntax.items d)) (q + 1)))))) = Z12 d deep q (k + 1) /\ Z39 d deep q (List.length (Syntax.items d)
 - (k + 1)) (Z12 d deep q (k + 1)))) /\ (decide ((k : Int) < (↑(List.length (List.map syntaxC (Syntax.items d))) : Int)) = false -> Prod.fst (scan (fun x m => meaY x (deep
 + 1) m) (Syntax.items d) (q + 1)) = true /\ Z5b d deep q (vI (Prod.snd (scan (fun x m => meaY x (deep + 1) m) (List.take k (Syntax.items d)) (q + 1)))) = Z5b d
 deep q (vI (Prod.snd (scan (fun x m => meaY x (deep + 1) m) (Syntax.items d) (q + 1)))))) := by kernel_rfl
theorem Zx7 (d : Syntax) (deep : Int) (q : Int) (h : 0 <= deep /\ deep <= 41 /\ 0 <= q /\ q <= 2000) (ih : ∀ (z : Syntax), z ∈ Syntax.items d -> ∀ (deep q : Int), 0 <= deep /\ deep
 <= 41 /\ 0 <= q /\ q <= 2000 -> Zax z deep q)  : LoopSem Tryz.prog (loopAt Tryz.f174 0) (Z39 d deep q) (Zdw d deep q) := by
  refine LoopSem.ofHead wide fun k h => ⟨_, _, Zso d deep q k, ?_⟩
  try delta Z1a
  have g1 := fun x m => meaY_of x (deep + 1) m
  with_reducible repeat' (first | apply And.intro | exact flatI | exact flatS | exact rowLens | exact ih | (intro; skip) | apply obsN | apply obsC | apply obA | apply obM | apply obB | apply svA | apply tupA | apply lcA | apply lcS | apply svC | apply liC | apply lbC | apply lsC | apply vIc | apply vBc | apply vSc | apply vLc | apply mapC | apply hdI | apply Zp3 | apply Zmc | apply Zmd | apply Zix | apply Z7m | apply ih)
  all_goals (try simp only [std] at *)
  all_goals (try (first | with_reducible apply Zix | with_reducible apply Z7m | with_reducible apply ih | (simp only [<- List.map_append]; first | with_reducible apply Zix | with_reducible apply Z7m | with_reducible apply ih)))
  all_goals (try (first | with_reducible rfl | omega | assumption | exact dT ‹_› | exact dF ‹_› | ((first | refine rowGet ?_ | refine getC ?_ rfl); (first | omega | (simp only [std]; omega) | grind)) | (show (_ : St) = _; rfl) | grind [scan_step, scan_stop, getD_mem', snocI, snocS, rowSnoc]))
abbrev Z13 (d : Syntax) (deep : Int) (q : Int) := [Ob.box [vI (Prod.snd (meaY d deep q))]]
theorem Zw2 (d : Syntax) (deep : Int) (q : Int) : aexec Tryz.prog (Tryz.f174.body.getD .skip) (entry [Ob.box [vI q]] [syntaxA d, li deep, SV.one (AC.ptr
 0 0)] 64) [.br [.bool true, .bool true, .fin []] [.br [.bool true, .fin []] [.call [Mode.rd, Mode.rd, Mode.rd, Mode.rd] [] (AV.sv (lb (nodD (Syntax.kind d)
 (Syntax.number d) (Syntax.text d) (↑(List.length (List.map syntaxC (Syntax.items d))) : Int)))), .br [.fin []] [.br [.br [.bool true, .fin []] [.call
 [Mode.rd] [] (AV.sv (lb (okSc (Syntax.scopes d)))), .br [.fin []] [.ghost (.sel [0] [1, 2, 51, 52, 53]), .loop (List.length (Syntax.items d) - 0) (Z12 d
 deep q 0) (Z39 d deep q) [(Prod.fst (scan (fun x m => meaY x (deep + 1) m) (Syntax.items d) (q + 1)) = true, AEx.exit 0, Z5b d deep q (vI (Prod.snd (scan (fun x
 m => meaY x (deep + 1) m) (Syntax.items d) (q + 1)))), [.fin []]), (Prod.fst (scan (fun x m => meaY x (deep + 1) m) (Syntax.items d) (q + 1)) = false, AEx.ret, Z5c d
 deep q (lb false) (vI (Prod.snd (scan (fun x m => meaY x (deep + 1) m) (Syntax.items d) (q + 1)))), [.fin []])]]]] [.bool false, .call [Mode.rd] [] (AV.sv (lb (okSc
 (Syntax.scopes d)))), .br [.fin []] [.ghost (.sel [0] [1, 2, 51, 52, 53]), .loop (List.length (Syntax.items d) - 0) (Z12 d deep q 0) (Z39 d deep
 q) [(Prod.fst (scan (fun x m => meaY x (deep + 1) m) (Syntax.items d) (q + 1)) = true, AEx.exit 0, Z5b d deep q (vI (Prod.snd (scan (fun x m => meaY x (deep + 1) m)
 (Syntax.items d) (q + 1)))), [.fin []]), (Prod.fst (scan (fun x m => meaY x (deep + 1) m) (Syntax.items d) (q + 1)) = false, AEx.ret, Z5c d deep q (lb false) (vI
 (Prod.snd (scan (fun x m => meaY x (deep + 1) m) (Syntax.items d) (q + 1)))), [.fin []])]]]]]]] (finK Tryz.prog [ResultVar.tmp 6] (Z13 d deep q) (AV.sv (lb (Prod.fst
 (meaY d deep q))))) = (rng .i64 (q + 1) /\ (decide (40 < deep) = true -> true = true /\ true = true /\ ObsEq [Ob.box [vI (q + 1)]] (Z13 d deep q) /\ AV.sv (lb false) =
 AV.sv (lb (Prod.fst (meaY d deep q)))) /\ (decide (40 < deep) = false -> (decide (2000 < q + 1) = true -> true = true /\ ObsEq [Ob.box [vI (q + 1)]] (Z13 d deep q) /\ AV.sv
 (lb false) = AV.sv (lb (Prod.fst (meaY d deep q)))) /\ (decide (2000 < q + 1) = false -> List.length (List.map syntaxC (Syntax.items d)) <= 9223372036854775807 -> Zve
 (Syntax.kind d) (Syntax.number d) (Syntax.text d) (↑(List.length (List.map syntaxC (Syntax.items d))) : Int) /\ ((!nodD (Syntax.kind d) (Syntax.number d) (Syntax.text d)
 (↑(List.length (List.map syntaxC (Syntax.items d))) : Int)) = true -> ObsEq [Ob.box [vI (q + 1)]] (Z13 d deep q) /\ AV.sv (lb false) = AV.sv (lb (Prod.fst (meaY d deep
 q)))) /\ ((!nodD (Syntax.kind d) (Syntax.number d) (Syntax.text d) (↑(List.length (List.map syntaxC (Syntax.items d))) : Int)) = false -> (decide (Syntax.kind d ≠ 1) = true ->
 List.length (List.map intC (Syntax.scopes d)) <= 9223372036854775807 -> (decide (0 < (↑(List.length (List.map intC (Syntax.scopes d))) : Int)) = true -> true = true /\ ObsEq [Ob.box
 [vI (q + 1)]] (Z13 d deep q) /\ AV.sv (lb false) = AV.sv (lb (Prod.fst (meaY d deep q)))) /\ (decide (0 < (↑(List.length (List.map intC (Syntax.scopes d))) : Int)) = false
 -> Zfy (Syntax.scopes d) /\ ((!okSc (Syntax.scopes d)) = true -> ObsEq [Ob.box [vI (q + 1)]] (Z13 d deep q) /\ AV.sv (lb false) = AV.sv (lb (Prod.fst (meaY d deep
 q)))) /\ ((!okSc (Syntax.scopes d)) = false -> List.length (List.map syntaxC (Syntax.items d)) <= 9223372036854775807 -> Zay d deep q (li 0) (vI (q + 1)) = Z12 d
 deep q 0 /\ Z39 d deep q (List.length (Syntax.items d) - 0) (Z12 d deep q 0) /\ LoopSem Tryz.prog (loopAt Tryz.f174 0) (Z39 d deep q) (Zdw d deep
 q) /\ (Prod.fst (scan (fun x m => meaY x (deep + 1) m) (Syntax.items d) (q + 1)) = true -> ObsEq [Ob.box [vI (Prod.snd (scan (fun x m => meaY x (deep + 1) m) (Syntax.items d) (q +
 1)))]] (Z13 d deep q) /\ AV.sv (lb true) = AV.sv (lb (Prod.fst (meaY d deep q)))) /\ (Prod.fst (scan (fun x m => meaY x (deep + 1) m) (Syntax.items d) (q + 1)) = false ->
 ObsEq [Ob.box [vI (Prod.snd (scan (fun x m => meaY x (deep + 1) m) (Syntax.items d) (q + 1)))]] (Z13 d deep q) /\ AV.sv (lb false) = AV.sv (lb (Prod.fst (meaY d deep q))))
 /\ True))) /\ (decide (Syntax.kind d ≠ 1) = false -> false = false /\ Zfy (Syntax.scopes d) /\ ((!okSc (Syntax.scopes d)) = true -> ObsEq [Ob.box [vI (q + 1)]] (Z13 d
 deep q) /\ AV.sv (lb false) = AV.sv (lb (Prod.fst (meaY d deep q)))) /\ ((!okSc (Syntax.scopes d)) = false -> List.length (List.map syntaxC (Syntax.items d)) <= 9223372036854775807 ->
 Zay d deep q (li 0) (vI (q + 1)) = Z12 d deep q 0 /\ Z39 d deep q (List.length (Syntax.items d) - 0) (Z12 d deep q 0) /\ LoopSem Tryz.prog
 (loopAt Tryz.f174 0) (Z39 d deep q) (Zdw d deep q) /\ (Prod.fst (scan (fun x m => meaY x (deep + 1) m) (Syntax.items d) (q + 1)) = true -> ObsEq [Ob.box [vI
 (Prod.snd (scan (fun x m => meaY x (deep + 1) m) (Syntax.items d) (q + 1)))]] (Z13 d deep q) /\ AV.sv (lb true) = AV.sv (lb (Prod.fst (meaY d deep q)))) /\ (Prod.fst (scan
 (fun x m => meaY x (deep + 1) m) (Syntax.items d) (q + 1)) = false -> ObsEq [Ob.box [vI (Prod.snd (scan (fun x m => meaY x (deep + 1) m) (Syntax.items d) (q + 1)))]] (Z13
 d deep q) /\ AV.sv (lb false) = AV.sv (lb (Prod.fst (meaY d deep q)))) /\ True)))))) := by kernel_rfl
theorem Z10u (d : Syntax) (deep q : Int) (h : 0 <= deep /\ deep <= 41 /\ 0 <= q /\ q <= 2000) (ih : ∀ z ∈ d.items, ∀ (deep : Int) (q : Int) (h : 0 <= deep /\ deep <= 41 /\ 0 <= q /\ q <=
 2000), Zax z deep q)  : Zax d deep q := by
  refine CallOK.ofRun wide (Zw2 d deep q) Tryz.call174 Tryz.func174 rfl rfl rfl ?_
  try delta Z13
  with_reducible repeat' (first | apply And.intro | exact flatI | exact flatS | exact rowLens | exact ih | (intro; skip) | apply obsN | apply obsC | apply obA | apply obM | apply obB | apply svA | apply tupA | apply lcA | apply lcS | apply svC | apply liC | apply lbC | apply lsC | apply vIc | apply vBc | apply vSc | apply vLc | apply mapC | apply hdI | apply Zp3 | apply Zx7 | apply Zmc | apply Zmd | apply Zix | apply Z7m)
  all_goals (try simp only [std] at *)
  all_goals (try (first | with_reducible apply Zix | with_reducible apply Z7m | with_reducible apply ih | (simp only [<- List.map_append]; first | with_reducible apply Zix | with_reducible apply Z7m | with_reducible apply ih)))
  all_goals (try (first | with_reducible rfl | omega | assumption | exact dT ‹_› | exact dF ‹_› | ((first | refine rowGet ?_ | refine getC ?_ rfl); (first | omega | (simp only [std]; omega) | grind)) | (show (_ : St) = _; rfl) | grind [meaY_eq, scan, nodY0, snocI, snocS, rowSnoc]))
theorem Zu3 (d : Syntax) : ∀ (deep : Int) (q : Int) (h : 0 <= deep /\ deep <= 41 /\ 0 <= q /\ q <= 2000), Zax d deep q := Syntax.ind (P := fun d => ∀ (deep : Int) (q : Int) (h : 0 <= deep /\ deep <= 41 /\ 0 <= q /\ q <= 2000), Zax d deep q) (fun d ih deep q h => Z10u d deep q h ih) d
abbrev Z9l (d : Syntax) : Prop := CallOK Tryz.prog 98 [] [syntaxA d] [] (.sv (lb (isSyn d)))
theorem Zsp (d : Syntax) : aexec Tryz.prog (Tryz.f98.body.getD .skip) (entry [] [syntaxA d] 6) [.call [Mode.rd, Mode.rd, Mode.ptr] [Ob.box [vI
 (Prod.snd (meaY d 1 0))]] (AV.sv (lb (Prod.fst (meaY d 1 0)))), .fin []] (finK Tryz.prog [ResultVar.tmp 2] [] (AV.sv (lb (isSyn d)))) = (Zax d 1 0 /\ ObsEq [] [] /\ AV.sv
 (lb (Prod.fst (meaY d 1 0))) = AV.sv (lb (isSyn d))) := by kernel_rfl
theorem Za (d : Syntax)  : Z9l d := by
  refine CallOK.ofRun wide (Zsp d) Tryz.call98 Tryz.func98 rfl rfl rfl ?_
  with_reducible repeat' (first | apply And.intro | exact flatI | exact flatS | exact rowLens | (intro; skip) | apply obsN | apply obsC | apply obA | apply obM | apply obB | apply svA | apply tupA | apply lcA | apply lcS | apply svC | apply liC | apply lbC | apply lsC | apply vIc | apply vBc | apply vSc | apply vLc | apply mapC | apply Zu3)
  all_goals (try simp only [std] at *)
  all_goals (try (first | with_reducible apply Zu3 | (simp only [<- List.map_append]; first | with_reducible apply Zu3)))
  all_goals (try (first | with_reducible rfl | omega | assumption | exact dT ‹_› | exact dF ‹_› | ((first | refine rowGet ?_ | refine getC ?_ rfl); (first | omega | (simp only [std]; omega) | grind)) | (show (_ : St) = _; rfl) | grind [meaY_isSyn, snocI, snocS, rowSnoc]))
abbrev Zgz (s : Syntax) : Prop := CallOK Tryz.prog 191 [] [syntaxA s] [] (.sv (lb (decide (s.kind = 1) && isSyn s)))
theorem Zyw (s : Syntax) : aexec Tryz.prog (Tryz.f191.body.getD .skip) (entry [] [syntaxA s] 10) [.br [.call [Mode.rd] [] (AV.sv (lb (isSyn s))),
 .fin []] [.fin []]] (finK Tryz.prog [ResultVar.tmp 2] [] (AV.sv (lb (decide (Syntax.kind s = 1) && isSyn s)))) = ((decide (Syntax.kind s = 1) = true -> Zcl s /\
 ObsEq [] [] /\ AV.sv (lb (isSyn s)) = AV.sv (lb (decide (Syntax.kind s = 1) && isSyn s))) /\ (decide (Syntax.kind s = 1) = false -> ObsEq [] [] /\ AV.sv (lb false) = AV.sv (lb (decide
 (Syntax.kind s = 1) && isSyn s)))) := by kernel_rfl
theorem Z1b (s : Syntax)  : Zgz s := by
  refine CallOK.ofRun wide (Zyw s) Tryz.call191 Tryz.func191 rfl rfl rfl ?_
  with_reducible repeat' (first | apply And.intro | exact flatI | exact flatS | exact rowLens | (intro; skip) | apply obsN | apply obsC | apply obA | apply obM | apply obB | apply svA | apply tupA | apply lcA | apply lcS | apply svC | apply liC | apply lbC | apply lsC | apply vIc | apply vBc | apply vSc | apply vLc | apply mapC | apply Zp)
  all_goals (try simp only [std] at *)
  all_goals (try (first | with_reducible apply Zp | (simp only [<- List.map_append]; first | with_reducible apply Zp)))
  all_goals (try (first | with_reducible rfl | omega | assumption | exact dT ‹_› | exact dF ‹_› | ((first | refine rowGet ?_ | refine getC ?_ rfl); (first | omega | (simp only [std]; omega) | grind)) | (show (_ : St) = _; rfl) | grind [snocI, snocS, rowSnoc]))
abbrev Zh0 (s : Syntax) : Prop := CallOK Tryz.prog 115 [] [syntaxA s] [] (.sv (lb (decide (s.kind = 1) && isSyn s)))
theorem Zyx (s : Syntax) : aexec Tryz.prog (Tryz.f115.body.getD .skip) (entry [] [syntaxA s] 10) [.br [.call [Mode.rd] [] (AV.sv (lb (isSyn s))),
 .fin []] [.fin []]] (finK Tryz.prog [ResultVar.tmp 2] [] (AV.sv (lb (decide (Syntax.kind s = 1) && isSyn s)))) = ((decide (Syntax.kind s = 1) = true -> Z9l s /\
 ObsEq [] [] /\ AV.sv (lb (isSyn s)) = AV.sv (lb (decide (Syntax.kind s = 1) && isSyn s))) /\ (decide (Syntax.kind s = 1) = false -> ObsEq [] [] /\ AV.sv (lb false) = AV.sv (lb (decide
 (Syntax.kind s = 1) && isSyn s)))) := by kernel_rfl
theorem Z1c (s : Syntax)  : Zh0 s := by
  refine CallOK.ofRun wide (Zyx s) Tryz.call115 Tryz.func115 rfl rfl rfl ?_
  with_reducible repeat' (first | apply And.intro | exact flatI | exact flatS | exact rowLens | (intro; skip) | apply obsN | apply obsC | apply obA | apply obM | apply obB | apply svA | apply tupA | apply lcA | apply lcS | apply svC | apply liC | apply lbC | apply lsC | apply vIc | apply vBc | apply vSc | apply vLc | apply mapC | apply Za)
  all_goals (try simp only [std] at *)
  all_goals (try (first | with_reducible apply Za | (simp only [<- List.map_append]; first | with_reducible apply Za)))
  all_goals (try (first | with_reducible rfl | omega | assumption | exact dT ‹_› | exact dF ‹_› | ((first | refine rowGet ?_ | refine getC ?_ rfl); (first | omega | (simp only [std]; omega) | grind)) | (show (_ : St) = _; rfl) | grind [snocI, snocS, rowSnoc]))
end Go.Proofs.YtegbadciefljcaaGreat
end
section
namespace Go.Proofs.YtegbadciefljcaaGreat
open Go Go.Proofs.YtegbadciefljcaaGreat.Ab
set_option linter.unusedVariables false
set_option linter.unusedSimpArgs false
set_option maxHeartbeats 4000000
abbrev Zhb (A : List Int) (B : List Int) : Prop := CallOK Tryz.prog 213 [] [ll (A.map intC), ll (B.map intC)] [] (.sv (lb (decide (A = B))))
def Zb7 (A : List Int) (B : List Int) (x0 : SV) : St := St.mk (regsOf 26 [(0, AV.sv (ll (List.map intC A))), (1, AV.sv (ll (List.map intC B))), (12, AV.sv (li
 (↑(List.length (List.map intC A)) : Int))), (13, AV.sv x0)]) [] 0 
def Z23 (A : List Int) (B : List Int) (k : Nat) : St := Zb7 A B (li (k : Int)) 
abbrev Z68 (A : List Int) (B : List Int) : Nat -> St -> Prop := Head (Z23 A B) (fun k => k <= List.length A /\ List.length A <= 9223372036854775807 /\ List.length A =
 List.length B /\ List.take k A = List.take k B) fun k => List.length A - k 
def Zaj (A : List Int) (B : List Int) : St := St.mk (regsOf 26 []) [] 0 
def Z4u (A : List Int) (B : List Int) (x0 : SV) : St := St.mk (regsOf 26 [(4, AV.sv x0)]) [] 0 
def Zf9 (A : List Int) (B : List Int) : List (Prop × AEx × St) := [(A = B, AEx.exit 0, Zaj A B), (A ≠ B, AEx.ret, Z4u A B (lb false))]

theorem Zme {A : List Int} {B : List Int} {k : Nat} {x0 : SV} (h0 : x0 = (li (k : Int))) : Zb7 A B x0 = Z23 A B k := by
  rw [h0]
  rfl
theorem Zjh {A : List Int} {B : List Int} {x0 y0 : SV} (h0 : x0 = y0) : Z4u A B x0 = Z4u A B y0 := by rw [h0]
theorem Zqf (A : List Int) (B : List Int) (k : Nat) : aexec Tryz.prog (loopAt Tryz.f213 0) (Z23 A B k) [.br [.draw [], .cells (intC (List.getD A k
 default)), .cells (intC (List.getD B k default)), .br [.ghost (.sel [] [4]), .out 1] [.ghost (.sel [] [0, 1, 12, 13]), .goto (List.length A - (k + 1))
 (Z23 A B (k + 1))]] [.ghost (.sel [] []), .out 0]] (loopK (Z68 A B) (Zf9 A B) (List.length A - k)) = ((decide ((k : Int) <
 (↑(List.length (List.map intC A)) : Int)) = true -> (0 <= (k : Int) /\ (List.map intC A)[Int.toNat (k : Int)]? = some [cI (List.getD A k 0)]) /\ (0 <= (k : Int) /\ (List.map intC
 B)[Int.toNat (k : Int)]? = some [cI (List.getD B k 0)]) /\ (decide (List.getD A k (0 : Int) ≠ List.getD B k 0) = true -> A ≠ B /\ Z4u A B (lb false) = Z4u A
 B (lb false)) /\ (decide (List.getD A k (0 : Int) ≠ List.getD B k 0) = false -> rng .i64 ((k : Int) + 1) /\ List.length A - (k + 1) < List.length A - k /\ Zb7 A B
 (li ((k : Int) + 1)) = Z23 A B (k + 1) /\ Z68 A B (List.length A - (k + 1)) (Z23 A B (k + 1)))) /\ (decide ((k : Int) < (↑(List.length (List.map
 intC A)) : Int)) = false -> A = B /\ Zaj A B = Zaj A B)) := by kernel_rfl
theorem Zu4 (A : List Int) (B : List Int)  : LoopSem Tryz.prog (loopAt Tryz.f213 0) (Z68 A B) (Zf9 A B) := by
  refine LoopSem.ofHead wide fun k h => ⟨_, _, Zqf A B k, ?_⟩
  with_reducible repeat' (first | apply And.intro | exact flatI | exact flatS | exact rowLens | (intro; skip) | apply obsN | apply obsC | apply obA | apply obM | apply obB | apply svA | apply tupA | apply lcA | apply lcS | apply svC | apply liC | apply lbC | apply lsC | apply vIc | apply vBc | apply vSc | apply vLc | apply mapC | apply hdI | apply Zme | apply Zjh)
  all_goals (try simp only [std] at *)
  all_goals (try (first | with_reducible rfl | omega | assumption | exact dT ‹_› | exact dF ‹_› | ((first | refine rowGet ?_ | refine getC ?_ rfl); (first | omega | (simp only [std]; omega) | grind)) | (show (_ : St) = _; rfl) | grind [take_eq, snocI, snocS, rowSnoc]))
theorem Zsq (A : List Int) (B : List Int) : aexec Tryz.prog (Tryz.f213.body.getD .skip) (entry [] [ll (List.map intC A), ll (List.map intC B)] 26)
 [.br [.fin []] [.ghost (.sel [] [0, 1, 12, 13]), .loop (List.length A - 0) (Z23 A B 0) (Z68 A B) [(A = B, AEx.exit 0, Zaj A B,
 [.fin []]), (A ≠ B, AEx.ret, Z4u A B (lb false), [.fin []])]]] (finK Tryz.prog [ResultVar.tmp 4] [] (AV.sv (lb (decide (A = B))))) = (List.length (List.map intC
 A) <= 9223372036854775807 -> List.length (List.map intC B) <= 9223372036854775807 -> (decide ((↑(List.length (List.map intC A)) : Int) ≠ (↑(List.length (List.map intC B)) : Int)) =
 true -> ObsEq [] [] /\ AV.sv (lb false) = AV.sv (lb (decide (A = B)))) /\ (decide ((↑(List.length (List.map intC A)) : Int) ≠ (↑(List.length (List.map intC B)) : Int)) = false ->
 List.length (List.map intC A) <= 9223372036854775807 -> Zb7 A B (li 0) = Z23 A B 0 /\ Z68 A B (List.length A - 0) (Z23 A B 0) /\ LoopSem
 Tryz.prog (loopAt Tryz.f213 0) (Z68 A B) (Zf9 A B) /\ (A = B -> ObsEq [] [] /\ AV.sv (lb true) = AV.sv (lb (decide (A = B)))) /\ ((A = B -> False) -> ObsEq [] [] /\
 AV.sv (lb false) = AV.sv (lb (decide (A = B)))) /\ True)) := by kernel_rfl
theorem Z45 (A B : List Int)  : Zhb A B := by
  refine CallOK.ofRun wide (Zsq A B) Tryz.call213 Tryz.func213 rfl rfl rfl ?_
  with_reducible repeat' (first | apply And.intro | exact flatI | exact flatS | exact rowLens | (intro; skip) | apply obsN | apply obsC | apply obA | apply obM | apply obB | apply svA | apply tupA | apply lcA | apply lcS | apply svC | apply liC | apply lbC | apply lsC | apply vIc | apply vBc | apply vSc | apply vLc | apply mapC | apply hdI | apply Zme | apply Zu4 | apply Zjh)
  all_goals (try simp only [std] at *)
  all_goals (try (first | with_reducible rfl | omega | assumption | exact dT ‹_› | exact dF ‹_› | ((first | refine rowGet ?_ | refine getC ?_ rfl); (first | omega | (simp only [std]; omega) | grind)) | (show (_ : St) = _; rfl) | grind [snocI, snocS, rowSnoc]))
abbrev Zcm (A : List Int) (B : List Int) : Prop := CallOK Tryz.prog 160 [] [ll (A.map intC), ll (B.map intC)] [] (.sv (lb (decide (A = B))))
def Zb8 (A : List Int) (B : List Int) (x0 : SV) : St := St.mk (regsOf 26 [(0, AV.sv (ll (List.map intC A))), (1, AV.sv (ll (List.map intC B))), (12, AV.sv (li
 (↑(List.length (List.map intC A)) : Int))), (13, AV.sv x0)]) [] 0 
def Z24 (A : List Int) (B : List Int) (k : Nat) : St := Zb8 A B (li (k : Int)) 
abbrev Z69 (A : List Int) (B : List Int) : Nat -> St -> Prop := Head (Z24 A B) (fun k => k <= List.length A /\ List.length A <= 9223372036854775807 /\ List.length A =
 List.length B /\ List.take k A = List.take k B) fun k => List.length A - k 
def Zak (A : List Int) (B : List Int) : St := St.mk (regsOf 26 []) [] 0 
def Z4v (A : List Int) (B : List Int) (x0 : SV) : St := St.mk (regsOf 26 [(4, AV.sv x0)]) [] 0 
def Zfa (A : List Int) (B : List Int) : List (Prop × AEx × St) := [(A = B, AEx.exit 0, Zak A B), (A ≠ B, AEx.ret, Z4v A B (lb false))]

theorem Zmf {A : List Int} {B : List Int} {k : Nat} {x0 : SV} (h0 : x0 = (li (k : Int))) : Zb8 A B x0 = Z24 A B k := by
  rw [h0]
  rfl
theorem Zji {A : List Int} {B : List Int} {x0 y0 : SV} (h0 : x0 = y0) : Z4v A B x0 = Z4v A B y0 := by rw [h0]
theorem Zqg (A : List Int) (B : List Int) (k : Nat) : aexec Tryz.prog (loopAt Tryz.f160 0) (Z24 A B k) [.br [.draw [], .cells (intC (List.getD A k
 default)), .cells (intC (List.getD B k default)), .br [.ghost (.sel [] [4]), .out 1] [.ghost (.sel [] [0, 1, 12, 13]), .goto (List.length A - (k + 1))
 (Z24 A B (k + 1))]] [.ghost (.sel [] []), .out 0]] (loopK (Z69 A B) (Zfa A B) (List.length A - k)) = ((decide ((k : Int) <
 (↑(List.length (List.map intC A)) : Int)) = true -> (0 <= (k : Int) /\ (List.map intC A)[Int.toNat (k : Int)]? = some [cI (List.getD A k 0)]) /\ (0 <= (k : Int) /\ (List.map intC
 B)[Int.toNat (k : Int)]? = some [cI (List.getD B k 0)]) /\ (decide (List.getD A k (0 : Int) ≠ List.getD B k 0) = true -> A ≠ B /\ Z4v A B (lb false) = Z4v A
 B (lb false)) /\ (decide (List.getD A k (0 : Int) ≠ List.getD B k 0) = false -> rng .i64 ((k : Int) + 1) /\ List.length A - (k + 1) < List.length A - k /\ Zb8 A B
 (li ((k : Int) + 1)) = Z24 A B (k + 1) /\ Z69 A B (List.length A - (k + 1)) (Z24 A B (k + 1)))) /\ (decide ((k : Int) < (↑(List.length (List.map
 intC A)) : Int)) = false -> A = B /\ Zak A B = Zak A B)) := by kernel_rfl
theorem Zu5 (A : List Int) (B : List Int)  : LoopSem Tryz.prog (loopAt Tryz.f160 0) (Z69 A B) (Zfa A B) := by
  refine LoopSem.ofHead wide fun k h => ⟨_, _, Zqg A B k, ?_⟩
  with_reducible repeat' (first | apply And.intro | exact flatI | exact flatS | exact rowLens | (intro; skip) | apply obsN | apply obsC | apply obA | apply obM | apply obB | apply svA | apply tupA | apply lcA | apply lcS | apply svC | apply liC | apply lbC | apply lsC | apply vIc | apply vBc | apply vSc | apply vLc | apply mapC | apply hdI | apply Zmf | apply Zji)
  all_goals (try simp only [std] at *)
  all_goals (try (first | with_reducible rfl | omega | assumption | exact dT ‹_› | exact dF ‹_› | ((first | refine rowGet ?_ | refine getC ?_ rfl); (first | omega | (simp only [std]; omega) | grind)) | (show (_ : St) = _; rfl) | grind [take_eq, snocI, snocS, rowSnoc]))
theorem Zsr (A : List Int) (B : List Int) : aexec Tryz.prog (Tryz.f160.body.getD .skip) (entry [] [ll (List.map intC A), ll (List.map intC B)] 26)
 [.br [.fin []] [.ghost (.sel [] [0, 1, 12, 13]), .loop (List.length A - 0) (Z24 A B 0) (Z69 A B) [(A = B, AEx.exit 0, Zak A B,
 [.fin []]), (A ≠ B, AEx.ret, Z4v A B (lb false), [.fin []])]]] (finK Tryz.prog [ResultVar.tmp 4] [] (AV.sv (lb (decide (A = B))))) = (List.length (List.map intC
 A) <= 9223372036854775807 -> List.length (List.map intC B) <= 9223372036854775807 -> (decide ((↑(List.length (List.map intC A)) : Int) ≠ (↑(List.length (List.map intC B)) : Int)) =
 true -> ObsEq [] [] /\ AV.sv (lb false) = AV.sv (lb (decide (A = B)))) /\ (decide ((↑(List.length (List.map intC A)) : Int) ≠ (↑(List.length (List.map intC B)) : Int)) = false ->
 List.length (List.map intC A) <= 9223372036854775807 -> Zb8 A B (li 0) = Z24 A B 0 /\ Z69 A B (List.length A - 0) (Z24 A B 0) /\ LoopSem
 Tryz.prog (loopAt Tryz.f160 0) (Z69 A B) (Zfa A B) /\ (A = B -> ObsEq [] [] /\ AV.sv (lb true) = AV.sv (lb (decide (A = B)))) /\ ((A = B -> False) -> ObsEq [] [] /\
 AV.sv (lb false) = AV.sv (lb (decide (A = B)))) /\ True)) := by kernel_rfl
theorem Zb (A B : List Int)  : Zcm A B := by
  refine CallOK.ofRun wide (Zsr A B) Tryz.call160 Tryz.func160 rfl rfl rfl ?_
  with_reducible repeat' (first | apply And.intro | exact flatI | exact flatS | exact rowLens | (intro; skip) | apply obsN | apply obsC | apply obA | apply obM | apply obB | apply svA | apply tupA | apply lcA | apply lcS | apply svC | apply liC | apply lbC | apply lsC | apply vIc | apply vBc | apply vSc | apply vLc | apply mapC | apply hdI | apply Zmf | apply Zu5 | apply Zji)
  all_goals (try simp only [std] at *)
  all_goals (try (first | with_reducible rfl | omega | assumption | exact dT ‹_› | exact dF ‹_› | ((first | refine rowGet ?_ | refine getC ?_ rfl); (first | omega | (simp only [std]; omega) | grind)) | (show (_ : St) = _; rfl) | grind [snocI, snocS, rowSnoc]))
end Go.Proofs.YtegbadciefljcaaGreat
end
