/- Part 2 of the proof: The program's BindVariable returns what the reference's returns, for all arguments. No condition. -/
import Derived.Test.YtegbadciefljcaaGreatBiV1
section
namespace Go.Proofs.YtegbadciefljcaaGreat
open Go Go.Proofs.YtegbadciefljcaaGreat.Ab
set_option linter.unusedVariables false
set_option linter.unusedSimpArgs false
set_option maxHeartbeats 4000000
def dotsB : List UInt8 := [46, 46, 46]
def isDots (s : Syntax) : Bool := decide (s.kind = 1) && decide (s.text.data.toList = dotsB)
def isId (s : Syntax) : Bool := decide (s.kind = 1) && isSyn s
def capFor (s : Syntax) (x : Capture) : Bool := decide (x.name.text = s.text) && decide (x.name.scopes = s.scopes) && isId x.name
def fndN (L : List Capture) (s : Syntax) : Nat := L.findIdx (capFor s)
def fnd (L : List Capture) (s : Syntax) : Int := if isDots s = false /\ fndN L s < L.length then fndN L s else -1
theorem fndN_at {L : List Capture} {s : Syntax} {k : Nat} (hk : k < L.length) (hb : k <= fndN L s) (h : capFor s (L.getD k default) = true) : fndN L s = k := by
  have h1 : L.getD k default = L[k] := by simp [hk]
  rw [h1] at h
  rcases Nat.lt_or_ge k (fndN L s) with h2 | h2
  . have := List.not_of_lt_findIdx h2
    simp [h] at this
  . omega
theorem fndN_next {L : List Capture} {s : Syntax} {k : Nat} (hk : k < L.length) (hb : k <= fndN L s) (h : capFor s (L.getD k default) = false) : k + 1 <= fndN L s := by
  have h1 : L.getD k default = L[k] := by simp [hk]
  rw [h1] at h
  rcases Nat.lt_or_ge k (fndN L s) with h2 | h2
  . exact h2
  . have e : fndN L s = k := by omega
    have := List.findIdx_getElem (p := capFor s) (xs := L) (w := by show fndN L s < _; omega)
    have h3 : capFor s (L[fndN L s]'(by omega)) = true := this
    simp only [e, h] at h3
    exact absurd h3 (by decide)
theorem fndN_le (L : List Capture) (s : Syntax) : fndN L s <= L.length := List.findIdx_le_length
theorem fnd_lt (L : List Capture) (s : Syntax) : -1 <= fnd L s /\ fnd L s < L.length := by
  unfold fnd; split <;> omega
abbrev Z7n (s : Syntax) : Prop := CallOK Tryz.prog 153 [] [syntaxA s] [] (.sv (lb (isDots s)))
theorem Zyy (s : Syntax) : aexec Tryz.prog (Tryz.f153.body.getD .skip) (entry [] [syntaxA s] 11) [.br [.fin []] [.fin []]] (finK Tryz.prog
 [ResultVar.tmp 2] [] (AV.sv (lb (isDots s)))) = ((decide (Syntax.kind s = 1) = true -> ObsEq [] [] /\ AV.sv (lb (decide (Array.toList (ByteArray.data (Syntax.text s)) = [(46 :
 UInt8), (46 : UInt8), (46 : UInt8)]))) = AV.sv (lb (isDots s))) /\ (decide (Syntax.kind s = 1) = false -> ObsEq [] [] /\ AV.sv (lb false) = AV.sv (lb (isDots s)))) := by kernel_rfl
theorem Z5 (s : Syntax)  : Z7n s := by
  refine CallOK.ofRun wide (Zyy s) Tryz.call153 Tryz.func153 rfl rfl rfl ?_
  with_reducible repeat' (first | apply And.intro | exact flatI | exact flatS | exact rowLens | (intro; skip) | apply obsN | apply obsC | apply obA | apply obM | apply obB | apply svA | apply tupA | apply lcA | apply lcS | apply svC | apply liC | apply lbC | apply lsC | apply vIc | apply vBc | apply vSc | apply vLc | apply mapC)
  all_goals (try simp only [std] at *)
  all_goals (try (first | with_reducible rfl | omega | assumption | exact dT ‹_› | exact dF ‹_› | ((first | refine rowGet ?_ | refine getC ?_ rfl); (first | omega | (simp only [std]; omega) | grind)) | (show (_ : St) = _; rfl) | grind [isDots, dotsB, snocI, snocS, rowSnoc]))
abbrev Z4k (s : Syntax) : Prop := CallOK Tryz.prog 162 [] [syntaxA s] [] (.sv (lb (isDots s)))
theorem Zyz (s : Syntax) : aexec Tryz.prog (Tryz.f162.body.getD .skip) (entry [] [syntaxA s] 11) [.br [.fin []] [.fin []]] (finK Tryz.prog
 [ResultVar.tmp 2] [] (AV.sv (lb (isDots s)))) = ((decide (Syntax.kind s = 1) = true -> ObsEq [] [] /\ AV.sv (lb (decide (Array.toList (ByteArray.data (Syntax.text s)) = [(46 :
 UInt8), (46 : UInt8), (46 : UInt8)]))) = AV.sv (lb (isDots s))) /\ (decide (Syntax.kind s = 1) = false -> ObsEq [] [] /\ AV.sv (lb false) = AV.sv (lb (isDots s)))) := by kernel_rfl
theorem Z0 (s : Syntax)  : Z4k s := by
  refine CallOK.ofRun wide (Zyz s) Tryz.call162 Tryz.func162 rfl rfl rfl ?_
  with_reducible repeat' (first | apply And.intro | exact flatI | exact flatS | exact rowLens | (intro; skip) | apply obsN | apply obsC | apply obA | apply obM | apply obB | apply svA | apply tupA | apply lcA | apply lcS | apply svC | apply liC | apply lbC | apply lsC | apply vIc | apply vBc | apply vSc | apply vLc | apply mapC)
  all_goals (try simp only [std] at *)
  all_goals (try (first | with_reducible rfl | omega | assumption | exact dT ‹_› | exact dF ‹_› | ((first | refine rowGet ?_ | refine getC ?_ rfl); (first | omega | (simp only [std]; omega) | grind)) | (show (_ : St) = _; rfl) | grind [isDots, dotsB, snocI, snocS, rowSnoc]))
abbrev Zp4 (a : Syntax) (b : Syntax) : Prop := CallOK Tryz.prog 224 [] [syntaxA a, syntaxA b] [] (.sv (lb (decide (a.text = b.text) && decide (a.scopes = b.scopes))))
theorem Zz0 (a : Syntax) (b : Syntax) : aexec Tryz.prog (Tryz.f224.body.getD .skip) (entry [] [syntaxA a, syntaxA b] 17) [.br [.call [Mode.rd,
 Mode.rd] [] (AV.sv (lb (decide (Syntax.scopes a = Syntax.scopes b)))), .fin []] [.fin []]] (finK Tryz.prog [ResultVar.tmp 4] [] (AV.sv (lb (decide (Syntax.text a =
 Syntax.text b) && decide (Syntax.scopes a = Syntax.scopes b))))) = ((decide (Array.toList (ByteArray.data (Syntax.text a)) = Array.toList (ByteArray.data (Syntax.text b))) = true
 -> Zhb (Syntax.scopes a) (Syntax.scopes b) /\ ObsEq [] [] /\ AV.sv (lb (decide (Syntax.scopes a = Syntax.scopes b))) = AV.sv (lb (decide (Syntax.text a = Syntax.text b) &&
 decide (Syntax.scopes a = Syntax.scopes b)))) /\ (decide (Array.toList (ByteArray.data (Syntax.text a)) = Array.toList (ByteArray.data (Syntax.text b))) = false -> ObsEq [] [] /\
 AV.sv (lb false) = AV.sv (lb (decide (Syntax.text a = Syntax.text b) && decide (Syntax.scopes a = Syntax.scopes b))))) := by kernel_rfl
theorem Z71 (a b : Syntax)  : Zp4 a b := by
  refine CallOK.ofRun wide (Zz0 a b) Tryz.call224 Tryz.func224 rfl rfl rfl ?_
  with_reducible repeat' (first | apply And.intro | exact flatI | exact flatS | exact rowLens | (intro; skip) | apply obsN | apply obsC | apply obA | apply obM | apply obB | apply svA | apply tupA | apply lcA | apply lcS | apply svC | apply liC | apply lbC | apply lsC | apply vIc | apply vBc | apply vSc | apply vLc | apply mapC | apply Z45)
  all_goals (try simp only [std] at *)
  all_goals (try (first | with_reducible apply Z45 | (simp only [<- List.map_append]; first | with_reducible apply Z45)))
  all_goals (try (first | with_reducible rfl | omega | assumption | exact dT ‹_› | exact dF ‹_› | ((first | refine rowGet ?_ | refine getC ?_ rfl); (first | omega | (simp only [std]; omega) | grind)) | (show (_ : St) = _; rfl) | grind [bytes_ext, snocI, snocS, rowSnoc]))
abbrev Zkb (a : Syntax) (b : Syntax) : Prop := CallOK Tryz.prog 228 [] [syntaxA a, syntaxA b] [] (.sv (lb (decide (a.kind = 1) && decide (b.kind = 1) && decide (a.text = b.text) && decide (a.scopes = b.scopes))))
abbrev Zb9 (a : Syntax) (b : Syntax) := (lb (decide (Syntax.kind a = 1) && decide (Syntax.kind b = 1) && decide (Syntax.text a = Syntax.text b) && decide (Syntax.scopes a =
 Syntax.scopes b)))
theorem Zz1 (a : Syntax) (b : Syntax) : aexec Tryz.prog (Tryz.f228.body.getD .skip) (entry [] [syntaxA a, syntaxA b] 27) [.br [.br [.br [.call
 [Mode.rd, Mode.rd] [] (AV.sv (lb (decide (Syntax.scopes a = Syntax.scopes b)))), .fin []] [.fin []]] [.bool false, .fin []]] [.bool false, .bool false, .fin
 []]] (finK Tryz.prog [ResultVar.tmp 4] [] (AV.sv (Zb9 a b))) = ((decide (Syntax.kind a = 1) = true -> (decide (Syntax.kind b = 1) = true -> (decide (Array.toList
 (ByteArray.data (Syntax.text a)) = Array.toList (ByteArray.data (Syntax.text b))) = true -> Zcm (Syntax.scopes a) (Syntax.scopes b) /\ ObsEq [] [] /\ AV.sv (lb (decide
 (Syntax.scopes a = Syntax.scopes b))) = AV.sv (Zb9 a b)) /\ (decide (Array.toList (ByteArray.data (Syntax.text a)) = Array.toList (ByteArray.data (Syntax.text b))) = false ->
 ObsEq [] [] /\ AV.sv (lb false) = AV.sv (Zb9 a b))) /\ (decide (Syntax.kind b = 1) = false -> false = false /\ ObsEq [] [] /\ AV.sv (lb false) = AV.sv (Zb9 a b))) /\
 (decide (Syntax.kind a = 1) = false -> false = false /\ false = false /\ ObsEq [] [] /\ AV.sv (lb false) = AV.sv (Zb9 a b))) := by kernel_rfl
theorem Z1d (a b : Syntax)  : Zkb a b := by
  refine CallOK.ofRun wide (Zz1 a b) Tryz.call228 Tryz.func228 rfl rfl rfl ?_
  try delta Zb9
  with_reducible repeat' (first | apply And.intro | exact flatI | exact flatS | exact rowLens | (intro; skip) | apply obsN | apply obsC | apply obA | apply obM | apply obB | apply svA | apply tupA | apply lcA | apply lcS | apply svC | apply liC | apply lbC | apply lsC | apply vIc | apply vBc | apply vSc | apply vLc | apply mapC | apply Zb)
  all_goals (try simp only [std] at *)
  all_goals (try (first | with_reducible apply Zb | (simp only [<- List.map_append]; first | with_reducible apply Zb)))
  all_goals (try (first | with_reducible rfl | omega | assumption | exact dT ‹_› | exact dF ‹_› | ((first | refine rowGet ?_ | refine getC ?_ rfl); (first | omega | (simp only [std]; omega) | grind)) | (show (_ : St) = _; rfl) | grind [bytes_ext, snocI, snocS, rowSnoc]))
abbrev Zkc (L : List Capture) (s : Syntax) : Prop := CallOK Tryz.prog 214 [] [ll (L.map captureC), syntaxA s] [] (.sv (li (fnd L s)))
def Zba (L : List Capture) (s : Syntax) (x0 : SV) : St := St.mk (regsOf 30 [(3, AV.sv (SV.one (AC.ptr 0 0))), (7, AV.sv (ll (List.map captureC L))), (8, AV.sv (li
 (↑(List.length (List.map captureC L)) : Int))), (9, AV.sv x0)]) [Ob.box (vals (syntaxF s))] 0 
def Zy (L : List Capture) (s : Syntax) (k : Nat) : St := Zba L s (li (k : Int)) 
abbrev Z7o (L : List Capture) (s : Syntax) : Nat -> St -> Prop := Head (Zy L s) (fun k => k <= List.length L /\ List.length L <= 9223372036854775807 /\ (isDots s = true ∨ k <=
 fndN L s)) fun k => List.length L - k 
def Zg0 (L : List Capture) (s : Syntax) : St := St.mk (regsOf 30 []) [] 0 
def Z9u (L : List Capture) (s : Syntax) (x0 : SV) : St := St.mk (regsOf 30 [(4, AV.sv x0)]) [] 0 
def Znb (L : List Capture) (s : Syntax) : List (Prop × AEx × St) := [(fnd L s = (-1 : Int), AEx.exit 0, Zg0 L s), (True, AEx.ret, Z9u L s (li (fnd L s)))]

theorem Zss {L : List Capture} {s : Syntax} {k : Nat} {x0 : SV} (h0 : x0 = (li (k : Int))) : Zba L s x0 = Zy L s k := by
  rw [h0]
  rfl
theorem Zp5 {L : List Capture} {s : Syntax} {x0 y0 : SV} (h0 : x0 = y0) : Z9u L s x0 = Z9u L s y0 := by rw [h0]
abbrev Z1o (L : List Capture) (k : Nat) := (Capture.name (List.getD L k default))
abbrev Zdx (L : List Capture) (s : Syntax) (k : Nat) := (decide (Syntax.text (Z1o L k) = Syntax.text s) && decide (Syntax.scopes (Z1o L k) =
 Syntax.scopes s))
theorem Zw3 (L : List Capture) (s : Syntax) (k : Nat) : aexec Tryz.prog (loopAt Tryz.f214 0) (Zy L s k) [.br [.cells (captureF (List.getD L k default)),
 .call [Mode.rd, Mode.rd] [] (AV.sv (lb (Zdx L s k))), .br [.call [Mode.rd] [] (AV.sv (lb (isDots s))), .br [.call [Mode.rd] [] (AV.sv (lb (decide
 (Syntax.kind (Z1o L k) = 1) && isSyn (Z1o L k)))), .br [.ghost (.sel [] [4]), .out 1] [.ghost (.sel [0] [3, 7, 8, 9]), .goto
 (List.length L - (k + 1)) (Zy L s (k + 1))]] [.bool false, .ghost (.sel [0] [3, 7, 8, 9]), .goto (List.length L - (k + 1)) (Zy L s (k + 1))]]
 [.bool false, .bool false, .ghost (.sel [0] [3, 7, 8, 9]), .goto (List.length L - (k + 1)) (Zy L s (k + 1))]] [.ghost (.sel [] []), .out 0]]
 (loopK (Z7o L s) (Znb L s) (List.length L - k)) = ((decide ((k : Int) < (↑(List.length (List.map captureC L)) : Int)) = true -> (0 <= (k : Int) /\ (List.map captureC
 L)[Int.toNat (k : Int)]? = some (captureF (List.getD L k default))) /\ Zp4 (Z1o L k) s /\ ((Zdx L s k) = true -> Z7n s /\ ((!isDots s) = true ->
 Zgz (Z1o L k) /\ ((decide (Syntax.kind (Z1o L k) = 1) && isSyn (Z1o L k)) = true -> True /\ Z9u L s (li (k : Int)) = Z9u L s (li
 (fnd L s))) /\ ((decide (Syntax.kind (Z1o L k) = 1) && isSyn (Z1o L k)) = false -> rng .i64 ((k : Int) + 1) /\ List.length L - (k + 1) < List.length L - k /\
 Zba L s (li ((k : Int) + 1)) = Zy L s (k + 1) /\ Z7o L s (List.length L - (k + 1)) (Zy L s (k + 1)))) /\ ((!isDots s) = false -> false = false /\ rng
 IntKind.i64 ((k : Int) + 1) /\ List.length L - (k + 1) < List.length L - k /\ Zba L s (li ((k : Int) + 1)) = Zy L s (k + 1) /\ Z7o L s (List.length L - (k +
 1)) (Zy L s (k + 1)))) /\ ((Zdx L s k) = false -> false = false /\ false = false /\ rng .i64 ((k : Int) + 1) /\ List.length L - (k + 1) < List.length L - k /\
 Zba L s (li ((k : Int) + 1)) = Zy L s (k + 1) /\ Z7o L s (List.length L - (k + 1)) (Zy L s (k + 1)))) /\ (decide ((k : Int) < (↑(List.length
 (List.map captureC L)) : Int)) = false -> fnd L s = (-1 : Int) /\ Zg0 L s = Zg0 L s)) := by kernel_rfl
theorem Z104 (L : List Capture) (s : Syntax)  : LoopSem Tryz.prog (loopAt Tryz.f214 0) (Z7o L s) (Znb L s) := by
  refine LoopSem.ofHead wide fun k h => ⟨_, _, Zw3 L s k, ?_⟩
  try delta Z1o Zdx
  have g1 := @fndN_at L s k
  have g2 := @fndN_next L s k
  have g3 := fndN_le L s
  with_reducible repeat' (first | apply And.intro | exact flatI | exact flatS | exact rowLens | (intro; skip) | apply obsN | apply obsC | apply obA | apply obM | apply obB | apply svA | apply tupA | apply lcA | apply lcS | apply svC | apply liC | apply lbC | apply lsC | apply vIc | apply vBc | apply vSc | apply vLc | apply mapC | apply hdI | apply Zss | apply Zp5 | apply Z71 | apply Z5 | apply Z1b)
  all_goals (try simp only [std] at *)
  all_goals (try (first | with_reducible apply Z71 | with_reducible apply Z5 | with_reducible apply Z1b | (simp only [<- List.map_append]; first | with_reducible apply Z71 | with_reducible apply Z5 | with_reducible apply Z1b)))
  all_goals (try (first | with_reducible rfl | omega | assumption | exact dT ‹_› | exact dF ‹_› | ((first | refine rowGet ?_ | refine getC ?_ rfl); (first | omega | (simp only [std]; omega) | grind)) | (show (_ : St) = _; rfl) | grind [fnd, capFor, isId, snocI, snocS, rowSnoc]))
theorem Zz2 (L : List Capture) (s : Syntax) : aexec Tryz.prog (Tryz.f214.body.getD .skip) (entry [] [ll (List.map captureC L), syntaxA s] 30) [.ghost
 (.sel [0] [3, 7, 8, 9]), .loop (List.length L - 0) (Zy L s 0) (Z7o L s) [(fnd L s = (-1 : Int), AEx.exit 0, Zg0 L s, [.fin []]), (True, AEx.ret,
 Z9u L s (li (fnd L s)), [.fin []])]] (finK Tryz.prog [ResultVar.tmp 4] [] (AV.sv (li (fnd L s)))) = (List.length (List.map captureC L) <= 9223372036854775807 ->
 Zba L s (li 0) = Zy L s 0 /\ Z7o L s (List.length L - 0) (Zy L s 0) /\ LoopSem Tryz.prog (loopAt Tryz.f214 0) (Z7o L s) (Znb L s) /\ (fnd
 L s = (-1 : Int) -> ObsEq [] [] /\ AV.sv (li (-1 : Int)) = AV.sv (li (fnd L s))) /\ (True -> ObsEq [] [] /\ AV.sv (li (fnd L s)) = AV.sv (li (fnd L s))) /\ True) := by kernel_rfl
theorem Z2f (L : List Capture) (s : Syntax)  : Zkc L s := by
  refine CallOK.ofRun wide (Zz2 L s) Tryz.call214 Tryz.func214 rfl rfl rfl ?_
  with_reducible repeat' (first | apply And.intro | exact flatI | exact flatS | exact rowLens | (intro; skip) | apply obsN | apply obsC | apply obA | apply obM | apply obB | apply svA | apply tupA | apply lcA | apply lcS | apply svC | apply liC | apply lbC | apply lsC | apply vIc | apply vBc | apply vSc | apply vLc | apply mapC | apply hdI | apply Zss | apply Z104 | apply Zp5 | apply Z71 | apply Z5 | apply Z1b)
  all_goals (try simp only [std] at *)
  all_goals (try (first | with_reducible apply Z71 | with_reducible apply Z5 | with_reducible apply Z1b | (simp only [<- List.map_append]; first | with_reducible apply Z71 | with_reducible apply Z5 | with_reducible apply Z1b)))
  all_goals (try (first | with_reducible rfl | omega | assumption | exact dT ‹_› | exact dF ‹_› | ((first | refine rowGet ?_ | refine getC ?_ rfl); (first | omega | (simp only [std]; omega) | grind)) | (show (_ : St) = _; rfl) | grind [snocI, snocS, rowSnoc]))
abbrev Zp6 (L : List Capture) (s : Syntax) : Prop := CallOK Tryz.prog 248 [] [ll (L.map captureC), syntaxA s] [] (.sv (li (if s.kind = 1 then fnd L s else -1)))
def Zdy (L : List Capture) (s : Syntax) (x0 : SV) : St := St.mk (regsOf 32 [(3, AV.sv (SV.one (AC.ptr 0 0))), (14, AV.sv (ll (List.map captureC L))), (15, AV.sv (li
 (↑(List.length (List.map captureC L)) : Int))), (16, AV.sv x0)]) [Ob.box (vals (syntaxF s))] 0 
def Z2i (L : List Capture) (s : Syntax) (k : Nat) : St := Zdy L s (li (k : Int)) 
abbrev Z9d (L : List Capture) (s : Syntax) : Nat -> St -> Prop := Head (Z2i L s) (fun k => k <= List.length L /\ List.length L <= 9223372036854775807 /\ k <= fndN L s /\
 Syntax.kind s = 1 /\ isDots s = false) fun k => List.length L - k 
def Zg1 (L : List Capture) (s : Syntax) : St := St.mk (regsOf 32 []) [] 0 
def Z9v (L : List Capture) (s : Syntax) (x0 : SV) : St := St.mk (regsOf 32 [(4, AV.sv x0)]) [] 0 
def Znc (L : List Capture) (s : Syntax) : List (Prop × AEx × St) := [(fnd L s = (-1 : Int), AEx.exit 0, Zg1 L s), (True, AEx.ret, Z9v L s (li (fnd L s)))]

theorem Zst {L : List Capture} {s : Syntax} {k : Nat} {x0 : SV} (h0 : x0 = (li (k : Int))) : Zdy L s x0 = Z2i L s k := by
  rw [h0]
  rfl
theorem Zp7 {L : List Capture} {s : Syntax} {x0 y0 : SV} (h0 : x0 = y0) : Z9v L s x0 = Z9v L s y0 := by rw [h0]
abbrev Z14 (L : List Capture) (k : Nat) := (Capture.name (List.getD L k default))
abbrev Zdz (L : List Capture) (s : Syntax) (k : Nat) := (decide (Syntax.kind (Z14 L k) = 1) && decide (Syntax.kind s = 1) && decide (Syntax.text (Z14 L
 k) = Syntax.text s) && decide (Syntax.scopes (Z14 L k) = Syntax.scopes s))
theorem Zw4 (L : List Capture) (s : Syntax) (k : Nat) : aexec Tryz.prog (loopAt Tryz.f248 0) (Z2i L s k) [.br [.cells (captureF (List.getD L k default)),
 .call [Mode.rd] [] (AV.sv (lb (decide (Syntax.kind (Z14 L k) = 1) && isSyn (Z14 L k)))), .br [.call [Mode.rd, Mode.rd] [] (AV.sv (lb (Zdz L s
 k))), .br [.ghost (.sel [] [4]), .out 1] [.ghost (.sel [0] [3, 14, 15, 16]), .goto (List.length L - (k + 1)) (Z2i L s (k + 1))]] [.bool false,
 .ghost (.sel [0] [3, 14, 15, 16]), .goto (List.length L - (k + 1)) (Z2i L s (k + 1))]] [.ghost (.sel [] []), .out 0]] (loopK (Z9d L s)
 (Znc L s) (List.length L - k)) = ((decide ((k : Int) < (↑(List.length (List.map captureC L)) : Int)) = true -> (0 <= (k : Int) /\ (List.map captureC L)[Int.toNat (↑k :
 Int)]? = some (captureF (List.getD L k default))) /\ Zh0 (Z14 L k) /\ ((decide (Syntax.kind (Z14 L k) = 1) && isSyn (Z14 L k)) = true -> Zkb
 (Z14 L k) s /\ ((Zdz L s k) = true -> True /\ Z9v L s (li (k : Int)) = Z9v L s (li (fnd L s))) /\ ((Zdz L s k) = false -> rng .i64
 ((k : Int) + 1) /\ List.length L - (k + 1) < List.length L - k /\ Zdy L s (li ((k : Int) + 1)) = Z2i L s (k + 1) /\ Z9d L s (List.length L - (k + 1))
 (Z2i L s (k + 1)))) /\ ((decide (Syntax.kind (Z14 L k) = 1) && isSyn (Z14 L k)) = false -> false = false /\ rng .i64 ((k : Int) + 1) /\ List.length L
 - (k + 1) < List.length L - k /\ Zdy L s (li ((k : Int) + 1)) = Z2i L s (k + 1) /\ Z9d L s (List.length L - (k + 1)) (Z2i L s (k + 1)))) /\ (decide ((↑k
 : Int) < (↑(List.length (List.map captureC L)) : Int)) = false -> fnd L s = (-1 : Int) /\ Zg1 L s = Zg1 L s)) := by kernel_rfl
theorem Z105 (L : List Capture) (s : Syntax)  : LoopSem Tryz.prog (loopAt Tryz.f248 0) (Z9d L s) (Znc L s) := by
  refine LoopSem.ofHead wide fun k h => ⟨_, _, Zw4 L s k, ?_⟩
  try delta Z14 Zdz
  have g1 := @fndN_at L s k
  have g2 := @fndN_next L s k
  have g3 := fndN_le L s
  with_reducible repeat' (first | apply And.intro | exact flatI | exact flatS | exact rowLens | (intro; skip) | apply obsN | apply obsC | apply obA | apply obM | apply obB | apply svA | apply tupA | apply lcA | apply lcS | apply svC | apply liC | apply lbC | apply lsC | apply vIc | apply vBc | apply vSc | apply vLc | apply mapC | apply hdI | apply Zst | apply Zp7 | apply Z0 | apply Z1c | apply Z1d)
  all_goals (try simp only [std] at *)
  all_goals (try (first | with_reducible apply Z0 | with_reducible apply Z1c | with_reducible apply Z1d | (simp only [<- List.map_append]; first | with_reducible apply Z0 | with_reducible apply Z1c | with_reducible apply Z1d)))
  all_goals (try (first | with_reducible rfl | omega | assumption | exact dT ‹_› | exact dF ‹_› | ((first | refine rowGet ?_ | refine getC ?_ rfl); (first | omega | (simp only [std]; omega) | grind)) | (show (_ : St) = _; rfl) | grind [fnd, capFor, isId, snocI, snocS, rowSnoc]))
abbrev Zbb (L : List Capture) (s : Syntax) := (li (if Syntax.kind s = 1 then fnd L s else (-1 : Int)))
theorem Zz3 (L : List Capture) (s : Syntax) : aexec Tryz.prog (Tryz.f248.body.getD .skip) (entry [] [ll (List.map captureC L), syntaxA s] 32) [.br
 [.bool true, .fin []] [.call [Mode.rd] [] (AV.sv (lb (isDots s))), .br [.fin []] [.ghost (.sel [0] [3, 14, 15, 16]), .loop (List.length L - 0)
 (Z2i L s 0) (Z9d L s) [(fnd L s = (-1 : Int), AEx.exit 0, Zg1 L s, [.fin []]), (True, AEx.ret, Z9v L s (li (fnd L s)), [.fin []])]]]] (finK
 Tryz.prog [ResultVar.tmp 4] [] (AV.sv (Zbb L s))) = ((decide (Syntax.kind s ≠ 1) = true -> true = true /\ ObsEq [] [] /\ AV.sv (li (-1 : Int)) = AV.sv (Zbb L s)) /\
 (decide (Syntax.kind s ≠ 1) = false -> Z4k s /\ (isDots s = true -> ObsEq [] [] /\ AV.sv (li (-1 : Int)) = AV.sv (Zbb L s)) /\ (isDots s = false -> List.length (List.map
 captureC L) <= 9223372036854775807 -> Zdy L s (li 0) = Z2i L s 0 /\ Z9d L s (List.length L - 0) (Z2i L s 0) /\ LoopSem Tryz.prog (loopAt Tryz.f248 0)
 (Z9d L s) (Znc L s) /\ (fnd L s = (-1 : Int) -> ObsEq [] [] /\ AV.sv (li (-1 : Int)) = AV.sv (Zbb L s)) /\ (True -> ObsEq [] [] /\ AV.sv (li (fnd L s)) = AV.sv
 (Zbb L s)) /\ True))) := by kernel_rfl
theorem Z72 (L : List Capture) (s : Syntax)  : Zp6 L s := by
  refine CallOK.ofRun wide (Zz3 L s) Tryz.call248 Tryz.func248 rfl rfl rfl ?_
  try delta Zbb
  with_reducible repeat' (first | apply And.intro | exact flatI | exact flatS | exact rowLens | (intro; skip) | apply obsN | apply obsC | apply obA | apply obM | apply obB | apply svA | apply tupA | apply lcA | apply lcS | apply svC | apply liC | apply lbC | apply lsC | apply vIc | apply vBc | apply vSc | apply vLc | apply mapC | apply hdI | apply Zst | apply Z105 | apply Zp7 | apply Z0 | apply Z1c | apply Z1d)
  all_goals (try simp only [std] at *)
  all_goals (try (first | with_reducible apply Z0 | with_reducible apply Z1c | with_reducible apply Z1d | (simp only [<- List.map_append]; first | with_reducible apply Z0 | with_reducible apply Z1c | with_reducible apply Z1d)))
  all_goals (try (first | with_reducible rfl | omega | assumption | exact dT ‹_› | exact dF ‹_› | ((first | refine rowGet ?_ | refine getC ?_ rfl); (first | omega | (simp only [std]; omega) | grind)) | (show (_ : St) = _; rfl) | grind [fnd, snocI, snocS, rowSnoc]))
def capD (L : List Capture) (s : Syntax) : Int := (L.getD (fnd L s).toNat default).depth
mutual
/-- is there a name of a deeper capture? -/
def drv (L : List Capture) (v : Int) : Syntax -> Bool
  | ⟨k, n, t, s, l⟩ => if k = 1 then decide (0 <= fnd L ⟨k, n, t, s, l⟩) && decide (v < capD L ⟨k, n, t, s, l⟩) else drvs L v l
def drvs (L : List Capture) (v : Int) : List Syntax -> Bool
  | [] => false
  | x :: r => drv L v x || drvs L v r
end
theorem drvs_eq (L : List Capture) (v : Int) : ∀ l, drvs L v l = l.any (drv L v)
  | [] => by simp [drvs]
  | x :: r => by rw [drvs, drvs_eq L v r]; rfl
theorem drv_eq (L : List Capture) (v : Int) (t : Syntax) : drv L v t = if t.kind = 1 then decide (0 <= fnd L t) && decide (v < capD L t) else t.items.any (drv L v) := by cases t; simp only [drv, drvs_eq]
mutual
/-- the reference's test of a template -/
def fit (L : List Capture) : Syntax -> Int -> Bool
  | ⟨k, n, t, s, l⟩, v => if k = 1 then !isDots ⟨k, n, t, s, l⟩ && (decide (fnd L ⟨k, n, t, s, l⟩ < 0) || decide (capD L ⟨k, n, t, s, l⟩ <= v)) else fits L l v
def fits (L : List Capture) : List Syntax -> Int -> Bool
  | [], _ => true
  | [x], v => fit L x v
  | x :: y :: r, v => if isDots y then !isDots x && drv L v x && fit L x (v + 1) && fits L r v else fit L x v && fits L (y :: r) v
end
theorem fit_eq (L : List Capture) (t : Syntax) (v : Int) : fit L t v = if t.kind = 1 then !isDots t && (decide (fnd L t < 0) || decide (capD L t <= v)) else fits L t.items v := by cases t; simp only [fit]
theorem fits_last {L : List Capture} {l : List Syntax} {k : Nat} {v : Int} (h : k + 1 = l.length) : fits L (l.drop k) v = fit L (l.getD k default) v := by
  rw [drop_get (by omega), List.drop_eq_nil_of_le (by omega), fits]
theorem fits_plain {L : List Capture} {l : List Syntax} {k : Nat} {v : Int} (h : k + 1 < l.length) (hd : isDots (l.getD (k + 1) default) = false) : fits L (l.drop k) v = (fit L (l.getD k default) v && fits L (l.drop (k + 1)) v) := by
  rw [drop_get (by omega : k < l.length), drop_get h, fits, hd]; rfl
theorem fits_dots {L : List Capture} {l : List Syntax} {k : Nat} {v : Int} (h : k + 1 < l.length) (hd : isDots (l.getD (k + 1) default) = true) : fits L (l.drop k) v = (!isDots (l.getD k default) && drv L v (l.getD k default) && fit L (l.getD k default) (v + 1) && fits L (l.drop (k + 1 + 1)) v) := by
  rw [drop_get (by omega : k < l.length), drop_get h, fits, hd]; rfl
theorem fits_end {L : List Capture} {l : List Syntax} {k : Nat} {v : Int} (h : l.length <= k) : fits L (l.drop k) v = true := by
  rw [List.drop_eq_nil_of_le h, fits]
theorem depY_item {t : Syntax} {k : Nat} (h : k < t.items.length) : depY (t.items.getD k default) + 1 <= depY t := by
  have := maxBy_mem depY (getD_mem' h)
  rw [depY_eq t]; omega
abbrev Zd7 (L : List Capture) (t : Syntax) (v : Int) : Prop := CallOK Tryz.prog 245 [] [ll (L.map captureC), syntaxA t, li v] [] (.sv (lb (drv L v t)))
def Zg2 (L : List Capture) (t : Syntax) (v : Int) (x0 : SV) : St := St.mk (regsOf 39 [(0, AV.sv (ll (List.map captureC L))), (2, AV.sv (li v)), (28, AV.sv (ll (List.map
 syntaxC (Syntax.items t)))), (29, AV.sv (li (↑(List.length (List.map syntaxC (Syntax.items t))) : Int))), (30, AV.sv x0)]) [] 0 
def Z46 (L : List Capture) (t : Syntax) (v : Int) (k : Nat) : St := Zg2 L t v (li (k : Int)) 
abbrev Z9w (L : List Capture) (t : Syntax) (v : Int) : Nat -> St -> Prop := Head (Z46 L t v) (fun k => k <= List.length (Syntax.items t) /\ List.length (Syntax.items t) <=
 9223372036854775807 /\ List.any (List.take k (Syntax.items t)) (drv L v) = false) fun k => List.length (Syntax.items t) - k 
def Ze0 (L : List Capture) (t : Syntax) (v : Int) : St := St.mk (regsOf 39 []) [] 0 
def Z8n (L : List Capture) (t : Syntax) (v : Int) (x0 : SV) : St := St.mk (regsOf 39 [(6, AV.sv x0)]) [] 0 
def Zl9 (L : List Capture) (t : Syntax) (v : Int) : List (Prop × AEx × St) := [(List.any (Syntax.items t) (drv L v) = false, AEx.exit 0, Ze0 L t v), (List.any
 (Syntax.items t) (drv L v) = true, AEx.ret, Z8n L t v (lb true))]

theorem Zqp {L : List Capture} {t : Syntax} {v : Int} {k : Nat} {x0 : SV} (h0 : x0 = (li (k : Int))) : Zg2 L t v x0 = Z46 L t v k := by
  rw [h0]
  rfl
theorem Zo1 {L : List Capture} {t : Syntax} {v : Int} {x0 y0 : SV} (h0 : x0 = y0) : Z8n L t v x0 = Z8n L t v y0 := by rw [h0]
theorem Zu6 (L : List Capture) (t : Syntax) (v : Int) (k : Nat) : aexec Tryz.prog (loopAt Tryz.f245 0) (Z46 L t v k) [.br [.cells (syntaxF (List.getD
 (Syntax.items t) k default)), .call [Mode.rd, Mode.rd, Mode.rd] [] (AV.sv (lb (drv L v (List.getD (Syntax.items t) k default)))), .br [.ghost (.sel [] [6]), .out
 1] [.ghost (.sel [] [0, 2, 28, 29, 30]), .goto (List.length (Syntax.items t) - (k + 1)) (Z46 L t v (k + 1))]] [.ghost (.sel [] []), .out 0]] (loopK
 (Z9w L t v) (Zl9 L t v) (List.length (Syntax.items t) - k)) = ((decide ((k : Int) < (↑(List.length (List.map syntaxC (Syntax.items t))) : Int)) = true -> (0 <= (↑k
 : Int) /\ (List.map syntaxC (Syntax.items t))[Int.toNat (k : Int)]? = some (syntaxF (List.getD (Syntax.items t) k default))) /\ Zd7 L (List.getD (Syntax.items t) k default) v
 /\ (drv L v (List.getD (Syntax.items t) k default) = true -> List.any (Syntax.items t) (drv L v) = true /\ Z8n L t v (lb true) = Z8n L t v (lb true)) /\ (drv L v
 (List.getD (Syntax.items t) k default) = false -> rng .i64 ((k : Int) + 1) /\ List.length (Syntax.items t) - (k + 1) < List.length (Syntax.items t) - k /\ Zg2 L t v
 (li ((k : Int) + 1)) = Z46 L t v (k + 1) /\ Z9w L t v (List.length (Syntax.items t) - (k + 1)) (Z46 L t v (k + 1)))) /\ (decide ((k : Int) < (↑(List.length
 (List.map syntaxC (Syntax.items t))) : Int)) = false -> List.any (Syntax.items t) (drv L v) = false /\ Ze0 L t v = Ze0 L t v)) := by kernel_rfl
theorem Zz4 (L : List Capture) (t : Syntax) (v : Int) (ih : ∀ (z : Syntax), z ∈ Syntax.items t -> ∀ (L : List Capture) (v : Int), Zd7 L z v)  : LoopSem Tryz.prog
 (loopAt Tryz.f245 0) (Z9w L t v) (Zl9 L t v) := by
  refine LoopSem.ofHead wide fun k h => ⟨_, _, Zu6 L t v k, ?_⟩
  with_reducible repeat' (first | apply And.intro | exact flatI | exact flatS | exact rowLens | exact ih | (intro; skip) | apply obsN | apply obsC | apply obA | apply obM | apply obB | apply svA | apply tupA | apply lcA | apply lcS | apply svC | apply liC | apply lbC | apply lsC | apply vIc | apply vBc | apply vSc | apply vLc | apply mapC | apply hdI | apply Zqp | apply Zo1 | apply Z2f | apply ih)
  all_goals (try simp only [std] at *)
  all_goals (try (first | with_reducible apply Z2f | with_reducible apply ih | (simp only [<- List.map_append]; first | with_reducible apply Z2f | with_reducible apply ih)))
  all_goals (try (first | with_reducible rfl | omega | assumption | exact dT ‹_› | exact dF ‹_› | ((first | refine rowGet ?_ | refine getC ?_ rfl); (first | omega | (simp only [std]; omega) | grind)) | (show (_ : St) = _; rfl) | grind [take_get, getD_mem', snocI, snocS, rowSnoc]))
theorem Zx8 (L : List Capture) (t : Syntax) (v : Int) : aexec Tryz.prog (Tryz.f245.body.getD .skip) (entry [] [ll (List.map captureC L), syntaxA t, li v]
 39) [.br [.call [Mode.rd, Mode.rd] [] (AV.sv (li (fnd L t))), .br [.cells (captureF (List.getD L (Int.toNat (fnd L t)) default)), .fin []] [.fin []]] [.ghost
 (.sel [] [0, 2, 28, 29, 30]), .loop (List.length (Syntax.items t) - 0) (Z46 L t v 0) (Z9w L t v) [(List.any (Syntax.items t) (drv L v) = false, AEx.exit 0,
 Ze0 L t v, [.fin []]), (List.any (Syntax.items t) (drv L v) = true, AEx.ret, Z8n L t v (lb true), [.fin []])]]] (finK Tryz.prog [ResultVar.tmp 6] [] (AV.sv
 (lb (drv L v t)))) = ((decide (Syntax.kind t = 1) = true -> Zkc L t /\ (decide (0 <= fnd L t) = true -> (0 <= fnd L t /\ (List.map captureC L)[Int.toNat (fnd L t)]? = some
 (captureF (List.getD L (Int.toNat (fnd L t)) default))) /\ ObsEq [] [] /\ AV.sv (lb (decide (v < Capture.depth (List.getD L (Int.toNat (fnd L t)) default)))) = AV.sv (lb (drv L v
 t))) /\ (decide (0 <= fnd L t) = false -> ObsEq [] [] /\ AV.sv (lb false) = AV.sv (lb (drv L v t)))) /\ (decide (Syntax.kind t = 1) = false -> List.length (List.map syntaxC
 (Syntax.items t)) <= 9223372036854775807 -> Zg2 L t v (li 0) = Z46 L t v 0 /\ Z9w L t v (List.length (Syntax.items t) - 0) (Z46 L t v 0) /\ LoopSem
 Tryz.prog (loopAt Tryz.f245 0) (Z9w L t v) (Zl9 L t v) /\ (List.any (Syntax.items t) (drv L v) = false -> ObsEq [] [] /\ AV.sv (lb false) = AV.sv (lb (drv L v t))) /\
 (List.any (Syntax.items t) (drv L v) = true -> ObsEq [] [] /\ AV.sv (lb true) = AV.sv (lb (drv L v t))) /\ True)) := by kernel_rfl
theorem Z116 (L : List Capture) (t : Syntax) (v : Int) (ih : ∀ z ∈ t.items, ∀ (L : List Capture) (v : Int), Zd7 L z v)  : Zd7 L t v := by
  refine CallOK.ofRun wide (Zx8 L t v) Tryz.call245 Tryz.func245 rfl rfl rfl ?_
  have g := fnd_lt L t
  with_reducible repeat' (first | apply And.intro | exact flatI | exact flatS | exact rowLens | exact ih | (intro; skip) | apply obsN | apply obsC | apply obA | apply obM | apply obB | apply svA | apply tupA | apply lcA | apply lcS | apply svC | apply liC | apply lbC | apply lsC | apply vIc | apply vBc | apply vSc | apply vLc | apply mapC | apply hdI | apply Zqp | apply Zz4 | apply Zo1 | apply Z2f)
  all_goals (try simp only [std] at *)
  all_goals (try (first | with_reducible apply Z2f | with_reducible apply ih | (simp only [<- List.map_append]; first | with_reducible apply Z2f | with_reducible apply ih)))
  all_goals (try (first | with_reducible rfl | omega | assumption | exact dT ‹_› | exact dF ‹_› | ((first | refine rowGet ?_ | refine getC ?_ rfl); (first | omega | (simp only [std]; omega) | grind)) | (show (_ : St) = _; rfl) | grind [drv_eq, capD, snocI, snocS, rowSnoc]))
theorem Zmg (t : Syntax) : ∀ (L : List Capture) (v : Int), Zd7 L t v := Syntax.ind (P := fun t => ∀ (L : List Capture) (v : Int), Zd7 L t v) (fun t ih L v => Z116 L t v ih) t
abbrev Z9e (L : List Capture) (t : Syntax) (v : Int) : Prop := CallOK Tryz.prog 216 [] [ll (L.map captureC), syntaxA t, li v] [] (.sv (lb (fit L t v)))
def Zc6 (L : List Capture) (t : Syntax) (v : Int) (x0 : SV) : St := St.mk (regsOf 79 [(0, AV.sv (ll (List.map captureC L))), (2, AV.sv (li v)), (4, AV.sv (SV.one (AC.ptr 0
 0))), (8, AV.sv x0)]) [Ob.box (vals (syntaxF t))] 0 
def Z1e (L : List Capture) (t : Syntax) (v : Int) (k : Nat) : St := Zc6 L t v (li (k : Int)) 
abbrev Z86 (L : List Capture) (t : Syntax) (v : Int) : Nat -> St -> Prop := Head (Z1e L t v) (fun k => List.length (Syntax.items t) >= k /\ fits L (Syntax.items t) v =
 fits L (List.drop k (Syntax.items t)) v) fun k => List.length (Syntax.items t) - k 
def Ze1 (L : List Capture) (t : Syntax) (v : Int) : St := St.mk (regsOf 79 []) [] 0 
def Zl (L : List Capture) (t : Syntax) (v : Int) (x0 : SV) : St := St.mk (regsOf 79 [(6, AV.sv x0)]) [] 0 
def Zla (L : List Capture) (t : Syntax) (v : Int) : List (Prop × AEx × St) := [(fits L (Syntax.items t) v = true, AEx.exit 0, Ze1 L t v), (fits L (Syntax.items t)
 v = false, AEx.ret, Zl L t v (lb false))]

theorem Zqq {L : List Capture} {t : Syntax} {v : Int} {k : Nat} {x0 : SV} (h0 : x0 = (li (k : Int))) : Zc6 L t v x0 = Z1e L t v k := by
  rw [h0]
  rfl
theorem Zo2 {L : List Capture} {t : Syntax} {v : Int} {x0 y0 : SV} (h0 : x0 = y0) : Zl L t v x0 = Zl L t v y0 := by rw [h0]
abbrev a1__sFit_sLa (L : List Capture) (t : Syntax) (v : Int) (k : Nat) := ((!fit L (List.getD (Syntax.items t) k default) v) = false -> rng IntKind.i64 ((k : Int) + 1) /\
 List.length (Syntax.items t) - (k + 1) < List.length (Syntax.items t) - k /\ Zc6 L t v (li ((k : Int) + 1)) = Z1e L t v (k + 1) /\ Z86 L t v (List.length
 (Syntax.items t) - (k + 1)) (Z1e L t v (k + 1)))
theorem Zu7 (L : List Capture) (t : Syntax) (v : Int) (k : Nat) : aexec Tryz.prog (loopAt Tryz.f216 0) (Z1e L t v k) [.br [.cells (syntaxF (List.getD
 (Syntax.items t) k default)), .br [.cells (syntaxF (List.getD (Syntax.items t) (k + 1) default)), .call [Mode.rd] [] (AV.sv (lb (isDots (List.getD (Syntax.items t) (k +
 1) default)))), .br [.call [Mode.rd] [] (AV.sv (lb (isDots (List.getD (Syntax.items t) k default)))), .br [.bool true, .ghost (.sel [] [6]), .out 1]
 [.call [Mode.rd, Mode.rd, Mode.rd] [] (AV.sv (lb (drv L v (List.getD (Syntax.items t) k default)))), .br [.ghost (.sel [] [6]), .out 1] [.call [Mode.rd,
 Mode.rd, Mode.rd] [] (AV.sv (lb (fit L (List.getD (Syntax.items t) k default) (v + 1)))), .br [.ghost (.sel [] [6]), .out 1] [.ghost (.sel [0] [0, 2, 4, 8]),
 .goto (List.length (Syntax.items t) - (k + 1 + 1)) (Z1e L t v (k + 1 + 1))]]]] [.call [Mode.rd, Mode.rd, Mode.rd] [] (AV.sv (lb (fit L (List.getD (Syntax.items t) k
 default) v))), .br [.ghost (.sel [] [6]), .out 1] [.ghost (.sel [0] [0, 2, 4, 8]), .goto (List.length (Syntax.items t) - (k + 1)) (Z1e L t v (k +
 1))]]] [.bool false, .call [Mode.rd, Mode.rd, Mode.rd] [] (AV.sv (lb (fit L (List.getD (Syntax.items t) k default) v))), .br [.ghost (.sel [] [6]), .out 1]
 [.ghost (.sel [0] [0, 2, 4, 8]), .goto (List.length (Syntax.items t) - (k + 1)) (Z1e L t v (k + 1))]]] [.ghost (.sel [] []), .out 0]] (loopK
 (Z86 L t v) (Zla L t v) (List.length (Syntax.items t) - k)) = (List.length (List.map syntaxC (Syntax.items t)) <= 9223372036854775807 -> (decide ((k : Int) <
 (↑(List.length (List.map syntaxC (Syntax.items t))) : Int)) = true -> (0 <= (k : Int) /\ (List.map syntaxC (Syntax.items t))[Int.toNat (k : Int)]? = some (syntaxF (List.getD
 (Syntax.items t) k default))) /\ rng .i64 ((k : Int) + 1) /\ (List.length (List.map syntaxC (Syntax.items t)) <= 9223372036854775807 -> (decide ((k : Int) + 1 <
 (↑(List.length (List.map syntaxC (Syntax.items t))) : Int)) = true -> rng .i64 ((k : Int) + 1) /\ (0 <= (k : Int) + 1 /\ (List.map syntaxC (Syntax.items t))[Int.toNat ((↑k :
 Int) + 1)]? = some (syntaxF (List.getD (Syntax.items t) (k + 1) default))) /\ Z7n (List.getD (Syntax.items t) (k + 1) default) /\ (isDots (List.getD (Syntax.items t) (k + 1)
 default) = true -> Z7n (List.getD (Syntax.items t) k default) /\ (isDots (List.getD (Syntax.items t) k default) = true -> true = true /\ fits L (Syntax.items t) v = false /\
 Zl L t v (lb false) = Zl L t v (lb false)) /\ (isDots (List.getD (Syntax.items t) k default) = false -> Zd7 L (List.getD (Syntax.items t) k default) v /\
 ((!drv L v (List.getD (Syntax.items t) k default)) = true -> fits L (Syntax.items t) v = false /\ Zl L t v (lb false) = Zl L t v (lb false)) /\ ((!drv L v
 (List.getD (Syntax.items t) k default)) = false -> rng .i64 (v + 1) /\ rng .i64 ((k : Int) + 1) /\ Z9e L (List.getD (Syntax.items t) k default) (v + 1) /\ ((!fit L
 (List.getD (Syntax.items t) k default) (v + 1)) = true -> fits L (Syntax.items t) v = false /\ Zl L t v (lb false) = Zl L t v (lb false)) /\ ((!fit L (List.getD
 (Syntax.items t) k default) (v + 1)) = false -> rng .i64 ((k : Int) + 1 + 1) /\ List.length (Syntax.items t) - (k + 1 + 1) < List.length (Syntax.items t) - k /\ Zc6 L
 t v (li ((k : Int) + 1 + 1)) = Z1e L t v (k + 1 + 1) /\ Z86 L t v (List.length (Syntax.items t) - (k + 1 + 1)) (Z1e L t v (k + 1 + 1)))))) /\ (isDots
 (List.getD (Syntax.items t) (k + 1) default) = false -> Z9e L (List.getD (Syntax.items t) k default) v /\ ((!fit L (List.getD (Syntax.items t) k default) v) = true -> fits L
 (Syntax.items t) v = false /\ Zl L t v (lb false) = Zl L t v (lb false)) /\ (a1__sFit_sLa L t v k))) /\ (decide ((k : Int) + 1 < (↑(List.length (List.map syntaxC
 (Syntax.items t))) : Int)) = false -> false = false /\ Z9e L (List.getD (Syntax.items t) k default) v /\ ((!fit L (List.getD (Syntax.items t) k default) v) = true -> fits L
 (Syntax.items t) v = false /\ Zl L t v (lb false) = Zl L t v (lb false)) /\ (a1__sFit_sLa L t v k)))) /\ (decide ((k : Int) < (↑(List.length (List.map syntaxC
 (Syntax.items t))) : Int)) = false -> fits L (Syntax.items t) v = true /\ Ze1 L t v = Ze1 L t v)) := by kernel_rfl
theorem Zz5 (L : List Capture) (t : Syntax) (v : Int) (h : 0 <= v /\ v + (↑(depY t) : Int) <= 1000) (ih : ∀ (z : Syntax), z ∈ Syntax.items t -> ∀ (L : List Capture) (v : Int),
 0 <= v /\ v + (↑(depY z) : Int) <= 1000 -> Z9e L z v)  : LoopSem Tryz.prog (loopAt Tryz.f216 0) (Z86 L t v) (Zla L t v) := by
  refine LoopSem.ofHead wide fun k h => ⟨_, _, Zu7 L t v k, ?_⟩
  try delta a1__sFit_sLa
  have g1 := @fits_last L t.items k v
  have g2 := @fits_plain L t.items k v
  have g3 := @fits_dots L t.items k v
  have g4 := @fits_end L t.items k v
  have g5 := @depY_item t k
  have g6 := @fits_end L t.items (k + 1) v
  with_reducible repeat' (first | apply And.intro | exact flatI | exact flatS | exact rowLens | exact ih | (intro; skip) | apply obsN | apply obsC | apply obA | apply obM | apply obB | apply svA | apply tupA | apply lcA | apply lcS | apply svC | apply liC | apply lbC | apply lsC | apply vIc | apply vBc | apply vSc | apply vLc | apply mapC | apply hdI | apply Zqq | apply Zo2 | apply Z2f | apply Z5 | apply Zmg | apply ih)
  all_goals (try simp only [std] at *)
  all_goals (try (first | with_reducible apply Z2f | with_reducible apply Z5 | with_reducible apply Zmg | with_reducible apply ih | (simp only [<- List.map_append]; first | with_reducible apply Z2f | with_reducible apply Z5 | with_reducible apply Zmg | with_reducible apply ih)))
  all_goals (try (first | with_reducible rfl | omega | assumption | exact dT ‹_› | exact dF ‹_› | ((first | refine rowGet ?_ | refine getC ?_ rfl); (first | omega | (simp only [std]; omega) | grind)) | (show (_ : St) = _; rfl) | grind [getD_mem', snocI, snocS, rowSnoc]))
theorem Zx9 (L : List Capture) (t : Syntax) (v : Int) : aexec Tryz.prog (Tryz.f216.body.getD .skip) (entry [] [ll (List.map captureC L), syntaxA t, li v]
 79) [.br [.call [Mode.rd, Mode.rd] [] (AV.sv (li (fnd L t))), .call [Mode.rd] [] (AV.sv (lb (isDots t))), .br [.br [.fin []] [.cells (captureF (List.getD L
 (Int.toNat (fnd L t)) default)), .fin []]] [.fin []]] [.ghost (.sel [0] [0, 2, 4, 8]), .loop (List.length (Syntax.items t) - 0) (Z1e L t v 0) (Z86
 L t v) [(fits L (Syntax.items t) v = true, AEx.exit 0, Ze1 L t v, [.fin []]), (fits L (Syntax.items t) v = false, AEx.ret, Zl L t v (lb false), [.fin
 []])]]] (finK Tryz.prog [ResultVar.tmp 6] [] (AV.sv (lb (fit L t v)))) = ((decide (Syntax.kind t = 1) = true -> Zkc L t /\ Z7n t /\ ((!isDots t) = true -> (decide (fnd L t
 < 0) = true -> ObsEq [] [] /\ AV.sv (lb true) = AV.sv (lb (fit L t v))) /\ (decide (fnd L t < 0) = false -> (0 <= fnd L t /\ (List.map captureC L)[Int.toNat (fnd L t)]? = some (captureF
 (List.getD L (Int.toNat (fnd L t)) default))) /\ ObsEq [] [] /\ AV.sv (lb (decide (Capture.depth (List.getD L (Int.toNat (fnd L t)) default) <= v))) = AV.sv (lb (fit L t v)))) /\
 ((!isDots t) = false -> ObsEq [] [] /\ AV.sv (lb false) = AV.sv (lb (fit L t v)))) /\ (decide (Syntax.kind t = 1) = false -> Zc6 L t v (li 0) = Z1e L t v 0 /\
 Z86 L t v (List.length (Syntax.items t) - 0) (Z1e L t v 0) /\ LoopSem Tryz.prog (loopAt Tryz.f216 0) (Z86 L t v) (Zla L t v) /\ (fits L (Syntax.items
 t) v = true -> ObsEq [] [] /\ AV.sv (lb true) = AV.sv (lb (fit L t v))) /\ (fits L (Syntax.items t) v = false -> ObsEq [] [] /\ AV.sv (lb false) = AV.sv (lb (fit L t v))) /\ True)) :=
 by kernel_rfl
theorem Z117 (L : List Capture) (t : Syntax) (v : Int) (h : 0 <= v /\ v + depY t <= 1000) (ih : ∀ z ∈ t.items, ∀ (L : List Capture) (v : Int) (h : 0 <= v /\ v + depY z <= 1000),
 Z9e L z v)  : Z9e L t v := by
  refine CallOK.ofRun wide (Zx9 L t v) Tryz.call216 Tryz.func216 rfl rfl rfl ?_
  have g := fnd_lt L t
  with_reducible repeat' (first | apply And.intro | exact flatI | exact flatS | exact rowLens | exact ih | (intro; skip) | apply obsN | apply obsC | apply obA | apply obM | apply obB | apply svA | apply tupA | apply lcA | apply lcS | apply svC | apply liC | apply lbC | apply lsC | apply vIc | apply vBc | apply vSc | apply vLc | apply mapC | apply hdI | apply Zqq | apply Zz5 | apply Zo2 | apply Z2f | apply Z5 | apply Zmg)
  all_goals (try simp only [std] at *)
  all_goals (try (first | with_reducible apply Z2f | with_reducible apply Z5 | with_reducible apply Zmg | with_reducible apply ih | (simp only [<- List.map_append]; first | with_reducible apply Z2f | with_reducible apply Z5 | with_reducible apply Zmg | with_reducible apply ih)))
  all_goals (try (first | with_reducible rfl | omega | assumption | exact dT ‹_› | exact dF ‹_› | ((first | refine rowGet ?_ | refine getC ?_ rfl); (first | omega | (simp only [std]; omega) | grind)) | (show (_ : St) = _; rfl) | grind [fit_eq, capD, snocI, snocS, rowSnoc]))
theorem Zmh (t : Syntax) : ∀ (L : List Capture) (v : Int) (h : 0 <= v /\ v + depY t <= 1000), Z9e L t v := Syntax.ind (P := fun t => ∀ (L : List Capture) (v : Int) (h : 0 <= v /\ v + depY t <= 1000), Z9e L t v) (fun t ih L v h => Z117 L t v h ih) t
def tmF (L : List Capture) (t : Syntax) : Bool := L.all (fun x => isId x.name && decide (0 <= x.depth)) && isSyn t && fit L t 0
abbrev Zxa (L : List Capture) (t : Syntax) : Prop := CallOK Tryz.prog 156 [] [ll (L.map captureC), syntaxA t] [] (.sv (lb (tmF L t)))
def Zkd (L : List Capture) (t : Syntax) (x0 : SV) : St := St.mk (regsOf 30 [(0, AV.sv (ll (List.map captureC L))), (3, AV.sv (SV.one (AC.ptr 0 0))), (7, AV.sv (ll (List.map
 captureC L))), (8, AV.sv (li (↑(List.length (List.map captureC L)) : Int))), (9, AV.sv x0)]) [Ob.box (vals (syntaxF t))] 0 
def Z7p (L : List Capture) (t : Syntax) (k : Nat) : St := Zkd L t (li (k : Int)) 
abbrev Zdd (L : List Capture) (t : Syntax) : Nat -> St -> Prop := Head (Z7p L t) (fun k => k <= List.length L /\ List.length L <= 9223372036854775807 /\ (List.all (List.take k
 L) fun x => isId (Capture.name x) && decide (0 <= Capture.depth x)) = true) fun k => List.length L - k 
def Zic (L : List Capture) (t : Syntax) : St := St.mk (regsOf 30 [(0, AV.sv (ll (List.map captureC L))), (3, AV.sv (SV.one (AC.ptr 0 0)))]) [Ob.box (vals (syntaxF t))] 0 
def Z7q (L : List Capture) (t : Syntax) (x0 : SV) : St := St.mk (regsOf 30 [(4, AV.sv x0)]) [] 0 
def Zp8 (L : List Capture) (t : Syntax) : List (Prop × AEx × St) := [((List.all L fun x => isId (Capture.name x) && decide (0 <= Capture.depth x)) = true, AEx.exit 0,
 Zic L t), ((List.all L fun x => isId (Capture.name x) && decide (0 <= Capture.depth x)) = false, AEx.ret, Z7q L t (lb false))]

theorem Zvh {L : List Capture} {t : Syntax} {k : Nat} {x0 : SV} (h0 : x0 = (li (k : Int))) : Zkd L t x0 = Z7p L t k := by
  rw [h0]
  rfl
theorem Zqr {L : List Capture} {t : Syntax} {x0 y0 : SV} (h0 : x0 = y0) : Z7q L t x0 = Z7q L t y0 := by rw [h0]
abbrev Zg3 (L : List Capture) (k : Nat) := (decide (Syntax.kind (Capture.name (List.getD L k default)) = 1) && isSyn (Capture.name (List.getD L k default)))
theorem Zxb (L : List Capture) (t : Syntax) (k : Nat) : aexec Tryz.prog (loopAt Tryz.f156 0) (Z7p L t k) [.br [.cells (captureF (List.getD L k default)),
 .call [Mode.rd] [] (AV.sv (lb (Zg3 L k))), .br [.bool true, .ghost (.sel [] [4]), .out 1] [.br [.ghost (.sel [] [4]), .out 1] [.ghost
 (.sel [0] [0, 3, 7, 8, 9]), .goto (List.length L - (k + 1)) (Z7p L t (k + 1))]]] [.ghost (.sel [0] [0, 3]), .out 0]] (loopK (Zdd L t) (Zp8 L
 t) (List.length L - k)) = ((decide ((k : Int) < (↑(List.length (List.map captureC L)) : Int)) = true -> (0 <= (k : Int) /\ (List.map captureC L)[Int.toNat (k : Int)]? = some
 (captureF (List.getD L k default))) /\ Zgz (Capture.name (List.getD L k default)) /\ ((!(Zg3 L k)) = true -> true = true /\ (List.all L fun x => isId (Capture.name x) &&
 decide (0 <= Capture.depth x)) = false /\ Z7q L t (lb false) = Z7q L t (lb false)) /\ ((!(Zg3 L k)) = false -> (decide (Capture.depth (List.getD L k default) <
 0) = true -> (List.all L fun x => isId (Capture.name x) && decide (0 <= Capture.depth x)) = false /\ Z7q L t (lb false) = Z7q L t (lb false)) /\ (decide (Capture.depth
 (List.getD L k default) < 0) = false -> rng .i64 ((k : Int) + 1) /\ List.length L - (k + 1) < List.length L - k /\ Zkd L t (li ((k : Int) + 1)) = Z7p L t (k + 1)
 /\ Zdd L t (List.length L - (k + 1)) (Z7p L t (k + 1))))) /\ (decide ((k : Int) < (↑(List.length (List.map captureC L)) : Int)) = false -> (List.all L fun x => isId
 (Capture.name x) && decide (0 <= Capture.depth x)) = true /\ Zic L t = Zic L t)) := by kernel_rfl
theorem Z10v (L : List Capture) (t : Syntax)  : LoopSem Tryz.prog (loopAt Tryz.f156 0) (Zdd L t) (Zp8 L t) := by
  refine LoopSem.ofHead wide fun k h => ⟨_, _, Zxb L t k, ?_⟩
  try delta Zg3
  with_reducible repeat' (first | apply And.intro | exact flatI | exact flatS | exact rowLens | (intro; skip) | apply obsN | apply obsC | apply obA | apply obM | apply obB | apply svA | apply tupA | apply lcA | apply lcS | apply svC | apply liC | apply lbC | apply lsC | apply vIc | apply vBc | apply vSc | apply vLc | apply mapC | apply hdI | apply Zvh | apply Zqr | apply Z1b | apply Zp | apply Zmh)
  all_goals (try simp only [std] at *)
  all_goals (try (first | with_reducible apply Z1b | with_reducible apply Zp | with_reducible apply Zmh | (simp only [<- List.map_append]; first | with_reducible apply Z1b | with_reducible apply Zp | with_reducible apply Zmh)))
  all_goals (try (first | with_reducible rfl | omega | assumption | exact dT ‹_› | exact dF ‹_› | ((first | refine rowGet ?_ | refine getC ?_ rfl); (first | omega | (simp only [std]; omega) | grind)) | (show (_ : St) = _; rfl) | grind [take_get, isId, getD_mem', snocI, snocS, rowSnoc]))
theorem Z106 (L : List Capture) (t : Syntax) : aexec Tryz.prog (Tryz.f156.body.getD .skip) (entry [] [ll (List.map captureC L), syntaxA t] 30) [.ghost
 (.sel [0] [0, 3, 7, 8, 9]), .loop (List.length L - 0) (Z7p L t 0) (Zdd L t) [((List.all L fun x => isId (Capture.name x) && decide (0 <= Capture.depth x)) =
 true, AEx.exit 0, Zic L t, [.call [Mode.rd] [] (AV.sv (lb (isSyn t))), .br [.call [Mode.rd, Mode.rd, Mode.rd] [] (AV.sv (lb (fit L t 0))), .fin []] [.fin
 []]]), ((List.all L fun x => isId (Capture.name x) && decide (0 <= Capture.depth x)) = false, AEx.ret, Z7q L t (lb false), [.fin []])]] (finK Tryz.prog [ResultVar.tmp 4]
 [] (AV.sv (lb (tmF L t)))) = (List.length (List.map captureC L) <= 9223372036854775807 -> Zkd L t (li 0) = Z7p L t 0 /\ Zdd L t (List.length L - 0) (Z7p L t
 0) /\ LoopSem Tryz.prog (loopAt Tryz.f156 0) (Zdd L t) (Zp8 L t) /\ ((List.all L fun x => isId (Capture.name x) && decide (0 <= Capture.depth x)) = true -> Zcl t
 /\ (isSyn t = true -> Z9e L t 0 /\ ObsEq [] [] /\ AV.sv (lb (fit L t 0)) = AV.sv (lb (tmF L t))) /\ (isSyn t = false -> ObsEq [] [] /\ AV.sv (lb false) = AV.sv (lb (tmF L t)))) /\
 ((List.all L fun x => isId (Capture.name x) && decide (0 <= Capture.depth x)) = false -> ObsEq [] [] /\ AV.sv (lb false) = AV.sv (lb (tmF L t))) /\ True) := by kernel_rfl
theorem Zmi (L : List Capture) (t : Syntax)  : Zxa L t := by
  refine CallOK.ofRun wide (Z106 L t) Tryz.call156 Tryz.func156 rfl rfl rfl ?_
  with_reducible repeat' (first | apply And.intro | exact flatI | exact flatS | exact rowLens | (intro; skip) | apply obsN | apply obsC | apply obA | apply obM | apply obB | apply svA | apply tupA | apply lcA | apply lcS | apply svC | apply liC | apply lbC | apply lsC | apply vIc | apply vBc | apply vSc | apply vLc | apply mapC | apply hdI | apply Zvh | apply Z10v | apply Zqr | apply Z1b | apply Zp | apply Zmh)
  all_goals (try simp only [std] at *)
  all_goals (try (first | with_reducible apply Z1b | with_reducible apply Zp | with_reducible apply Zmh | (simp only [<- List.map_append]; first | with_reducible apply Z1b | with_reducible apply Zp | with_reducible apply Zmh)))
  all_goals (try (first | with_reducible rfl | omega | assumption | exact dT ‹_› | exact dF ‹_› | ((first | refine rowGet ?_ | refine getC ?_ rfl); (first | omega | (simp only [std]; omega) | grind)) | (show (_ : St) = _; rfl) | grind [tmF, isSyn, snocI, snocS, rowSnoc]))
mutual
def dotf : Syntax -> Bool
  | ⟨k, n, t, s, l⟩ => !isDots ⟨k, n, t, s, l⟩ && dotfs true l
def dotfs : Bool -> List Syntax -> Bool
  | _, [] => true
  | b, x :: r => if isDots x then !b && dotfs true r else dotf x && dotfs false r
end
theorem dotf_eq (t : Syntax) : dotf t = (!isDots t && dotfs true t.items) := by cases t; simp only [dotf]
def barred (l : List Syntax) (k : Nat) : Bool := decide (k = 0) || isDots (l.getD (k - 1) default)
theorem dotfs_step {l : List Syntax} {b : Bool} {k : Nat} (h : k < l.length) : dotfs b (l.drop k) = if isDots (l.getD k default) then !b && dotfs true (l.drop (k + 1)) else dotf (l.getD k default) && dotfs false (l.drop (k + 1)) := by
  rw [drop_get h, dotfs]
theorem dotfs_end {l : List Syntax} {b : Bool} {k : Nat} (h : l.length <= k) : dotfs b (l.drop k) = true := by
  rw [List.drop_eq_nil_of_le h, dotfs]
abbrev Z6u (t : Syntax) : Prop := CallOK Tryz.prog 221 [] [syntaxA t] [] (.sv (lb (dotf t)))
def Z7r (t : Syntax) (x0 : SV) : St := St.mk (regsOf 32 [(1, AV.sv (SV.one (AC.ptr 0 0))), (8, AV.sv (ll (List.map syntaxC (Syntax.items t)))), (9, AV.sv (li
 (↑(List.length (List.map syntaxC (Syntax.items t))) : Int))), (10, AV.sv x0)]) [Ob.box (vals (syntaxF t))] 0 
def Ze (t : Syntax) (k : Nat) : St := Z7r t (li (k : Int)) 
abbrev Z3a (t : Syntax) : Nat -> St -> Prop := Head (Ze t) (fun k => k <= List.length (Syntax.items t) /\ List.length (Syntax.items t) <= 9223372036854775807 /\
 dotfs true (Syntax.items t) = dotfs (barred (Syntax.items t) k) (List.drop k (Syntax.items t))) fun k => List.length (Syntax.items t) - k 
def Z9f (t : Syntax) : St := St.mk (regsOf 32 []) [] 0 
def Zq (t : Syntax) (x0 : SV) : St := St.mk (regsOf 32 [(2, AV.sv x0)]) [] 0 
def Ze2 (t : Syntax) : List (Prop × AEx × St) := [(dotfs true (Syntax.items t) = true, AEx.exit 0, Z9f t), (dotfs true (Syntax.items t) = false, AEx.ret,
 Zq t (lb false))]

theorem Zke {t : Syntax} {k : Nat} {x0 : SV} (h0 : x0 = (li (k : Int))) : Z7r t x0 = Ze t k := by
  rw [h0]
  rfl
theorem Zhy {t : Syntax} {x0 y0 : SV} (h0 : x0 = y0) : Zq t x0 = Zq t y0 := by rw [h0]
abbrev Z2a (t : Syntax) (k : Nat) := (List.getD (Syntax.items t) (Int.toNat ((↑k : Int) - 1)) default)
abbrev Zc (t : Syntax) (k : Nat) := (List.getD (Syntax.items t) k default)
theorem Zp9 (t : Syntax) (k : Nat) : aexec Tryz.prog (loopAt Tryz.f221 0) (Ze t k) [.br [.cells (syntaxF (Zc t k)), .call
 [Mode.rd] [] (AV.sv (lb (isDots (Zc t k)))), .br [.br [.bool true, .ghost (.sel [] [2]), .out 1] [.cells (syntaxF (Z2a t k)),
 .call [Mode.rd] [] (AV.sv (lb (isDots (Z2a t k)))), .br [.ghost (.sel [] [2]), .out 1] [.ghost (.sel [0] [1, 8, 9, 10]), .goto
 (List.length (Syntax.items t) - (k + 1)) (Ze t (k + 1))]]] [.call [Mode.rd] [] (AV.sv (lb (dotf (Zc t k)))), .br [.ghost (.sel [] [2]),
 .out 1] [.ghost (.sel [0] [1, 8, 9, 10]), .goto (List.length (Syntax.items t) - (k + 1)) (Ze t (k + 1))]]] [.ghost (.sel [] []), .out 0]]
 (loopK (Z3a t) (Ze2 t) (List.length (Syntax.items t) - k)) = ((decide ((k : Int) < (↑(List.length (List.map syntaxC (Syntax.items t))) : Int)) = true -> (0
 <= (k : Int) /\ (List.map syntaxC (Syntax.items t))[Int.toNat (k : Int)]? = some (syntaxF (Zc t k))) /\ Z4k (Zc t k) /\ (isDots
 (Zc t k) = true -> (decide ((k : Int) = 0) = true -> true = true /\ dotfs true (Syntax.items t) = false /\ Zq t (lb false) = Zq t (lb
 false)) /\ (decide ((k : Int) = 0) = false -> rng .i64 ((k : Int) - 1) /\ (0 <= (k : Int) - 1 /\ (List.map syntaxC (Syntax.items t))[Int.toNat ((k : Int) - 1)]? = some
 (syntaxF (Z2a t k))) /\ Z4k (Z2a t k) /\ (isDots (Z2a t k) = true -> dotfs true (Syntax.items t) = false /\ Zq t (lb
 false) = Zq t (lb false)) /\ (isDots (Z2a t k) = false -> rng .i64 ((k : Int) + 1) /\ List.length (Syntax.items t) - (k + 1) < List.length
 (Syntax.items t) - k /\ Z7r t (li ((k : Int) + 1)) = Ze t (k + 1) /\ Z3a t (List.length (Syntax.items t) - (k + 1)) (Ze t (k +
 1))))) /\ (isDots (Zc t k) = false -> Z6u (Zc t k) /\ ((!dotf (Zc t k)) = true -> dotfs true (Syntax.items t) = false /\
 Zq t (lb false) = Zq t (lb false)) /\ ((!dotf (Zc t k)) = false -> rng .i64 ((k : Int) + 1) /\ List.length (Syntax.items t) - (k +
 1) < List.length (Syntax.items t) - k /\ Z7r t (li ((k : Int) + 1)) = Ze t (k + 1) /\ Z3a t (List.length (Syntax.items t) - (k + 1))
 (Ze t (k + 1))))) /\ (decide ((k : Int) < (↑(List.length (List.map syntaxC (Syntax.items t))) : Int)) = false -> dotfs true (Syntax.items t) = true /\ Z9f
 t = Z9f t)) := by kernel_rfl
theorem Zsu (t : Syntax) (ih : ∀ (z : Syntax), z ∈ Syntax.items t -> Z6u z)  : LoopSem Tryz.prog (loopAt Tryz.f221 0) (Z3a t) (Ze2 t) :=
 by
  refine LoopSem.ofHead wide fun k h => ⟨_, _, Zp9 t k, ?_⟩
  try delta Z2a Zc
  have g1 := @dotfs_step t.items (barred t.items k) k
  have g2 := @dotfs_end t.items (barred t.items k) k
  have e : ((k : Int) - 1).toNat = k - 1 := by omega
  have g3 : barred t.items k = (decide (k = 0) || isDots (t.items.getD (k - 1) default)) := rfl
  have g4 : barred t.items (k + 1) = isDots (t.items.getD k default) := by simp [barred]
  with_reducible repeat' (first | apply And.intro | exact flatI | exact flatS | exact rowLens | exact ih | (intro; skip) | apply obsN | apply obsC | apply obA | apply obM | apply obB | apply svA | apply tupA | apply lcA | apply lcS | apply svC | apply liC | apply lbC | apply lsC | apply vIc | apply vBc | apply vSc | apply vLc | apply mapC | apply hdI | apply Zke | apply Zhy | apply Z0 | apply ih)
  all_goals (try simp only [std] at *)
  all_goals (try (first | with_reducible apply Z0 | with_reducible apply ih | (simp only [<- List.map_append]; first | with_reducible apply Z0 | with_reducible apply ih)))
  all_goals (try (first | with_reducible rfl | omega | assumption | exact dT ‹_› | exact dF ‹_› | ((first | refine rowGet ?_ | refine getC ?_ rfl); (first | omega | (simp only [std]; omega) | grind)) | (show (_ : St) = _; rfl) | grind [getD_mem', snocI, snocS, rowSnoc]))
theorem Zrb (t : Syntax) : aexec Tryz.prog (Tryz.f221.body.getD .skip) (entry [] [syntaxA t] 32) [.call [Mode.rd] [] (AV.sv (lb (isDots t))),
 .br [.fin []] [.ghost (.sel [0] [1, 8, 9, 10]), .loop (List.length (Syntax.items t) - 0) (Ze t 0) (Z3a t) [(dotfs true (Syntax.items t) =
 true, AEx.exit 0, Z9f t, [.fin []]), (dotfs true (Syntax.items t) = false, AEx.ret, Zq t (lb false), [.fin []])]]] (finK Tryz.prog [ResultVar.tmp
 2] [] (AV.sv (lb (dotf t)))) = (Z4k t /\ (isDots t = true -> ObsEq [] [] /\ AV.sv (lb false) = AV.sv (lb (dotf t))) /\ (isDots t = false -> List.length (List.map syntaxC
 (Syntax.items t)) <= 9223372036854775807 -> Z7r t (li 0) = Ze t 0 /\ Z3a t (List.length (Syntax.items t) - 0) (Ze t 0) /\ LoopSem
 Tryz.prog (loopAt Tryz.f221 0) (Z3a t) (Ze2 t) /\ (dotfs true (Syntax.items t) = true -> ObsEq [] [] /\ AV.sv (lb true) = AV.sv (lb (dotf t))) /\ (dotfs true
 (Syntax.items t) = false -> ObsEq [] [] /\ AV.sv (lb false) = AV.sv (lb (dotf t))) /\ True)) := by kernel_rfl
theorem Zxc (t : Syntax) (ih : ∀ z ∈ t.items, Z6u z)  : Z6u t := by
  refine CallOK.ofRun wide (Zrb t) Tryz.call221 Tryz.func221 rfl rfl rfl ?_
  with_reducible repeat' (first | apply And.intro | exact flatI | exact flatS | exact rowLens | exact ih | (intro; skip) | apply obsN | apply obsC | apply obA | apply obM | apply obB | apply svA | apply tupA | apply lcA | apply lcS | apply svC | apply liC | apply lbC | apply lsC | apply vIc | apply vBc | apply vSc | apply vLc | apply mapC | apply hdI | apply Zke | apply Zsu | apply Zhy | apply Z0)
  all_goals (try simp only [std] at *)
  all_goals (try (first | with_reducible apply Z0 | with_reducible apply ih | (simp only [<- List.map_append]; first | with_reducible apply Z0 | with_reducible apply ih)))
  all_goals (try (first | with_reducible rfl | omega | assumption | exact dT ‹_› | exact dF ‹_› | ((first | refine rowGet ?_ | refine getC ?_ rfl); (first | omega | (simp only [std]; omega) | grind)) | (show (_ : St) = _; rfl) | grind [dotf_eq, barred, snocI, snocS, rowSnoc]))
theorem Zbc (t : Syntax) : Z6u t := Syntax.ind (P := fun t => Z6u t) (fun t ih => Zxc t ih) t
mutual
def dee (L : List Capture) : Syntax -> Int
  | ⟨k, n, t, s, l⟩ => dees L l (if k = 1 /\ 0 <= fnd L ⟨k, n, t, s, l⟩ then capD L ⟨k, n, t, s, l⟩ else -1)
def dees (L : List Capture) : List Syntax -> Int -> Int
  | [], b => b
  | x :: r, b => dees L r (max b (dee L x))
end
theorem dees_eq (L : List Capture) : ∀ l b, dees L l b = l.foldl (fun b x => max b (dee L x)) b
  | [], _ => by rw [dees]; rfl
  | x :: r, b => by rw [dees, dees_eq L r]; rfl
def dee0 (L : List Capture) (t : Syntax) : Int := if t.kind = 1 /\ 0 <= fnd L t then capD L t else -1
theorem dee_eq (L : List Capture) (t : Syntax) : dee L t = t.items.foldl (fun b x => max b (dee L x)) (dee0 L t) := by cases t; simp only [dee, dees_eq, dee0]
abbrev Zaz (L : List Capture) (t : Syntax) : Prop := CallOK Tryz.prog 249 [] [ll (L.map captureC), syntaxA t] [] (.sv (li (dee L t)))
def Zb0 (L : List Capture) (t : Syntax) (x0 : SV) (x1 : SV) : St := St.mk (regsOf 33 [(0, AV.sv (ll (List.map captureC L))), (5, AV.sv x1), (20, AV.sv (ll (List.map
 syntaxC (Syntax.items t)))), (21, AV.sv (li (↑(List.length (List.map syntaxC (Syntax.items t))) : Int))), (22, AV.sv x0)]) [] 0 
def Z15 (L : List Capture) (t : Syntax) (k : Nat) : St := Zb0 L t (li (k : Int)) (li (List.foldl (fun b x => max b (dee L x)) (dee0 L t) (List.take k
 (Syntax.items t)))) 
abbrev Z3b (L : List Capture) (t : Syntax) : Nat -> St -> Prop := Head (Z15 L t) (fun k => k <= List.length (Syntax.items t) /\ List.length (Syntax.items t) <=
 9223372036854775807) fun k => List.length (Syntax.items t) - k 
def Z5d (L : List Capture) (t : Syntax) (x0 : SV) : St := St.mk (regsOf 33 [(5, AV.sv x0)]) [] 0 
def Ze3 (L : List Capture) (t : Syntax) : List (Prop × AEx × St) := [(True, AEx.exit 0, Z5d L t (li (dee L t)))]

theorem Zpa {L : List Capture} {t : Syntax} {k : Nat} {x0 : SV} {x1 : SV} (h0 : x0 = (li (k : Int))) (h1 : x1 = (li (List.foldl (fun b x => max b (dee L x)) (dee0 L t)
 (List.take k (Syntax.items t))))) : Zb0 L t x0 x1 = Z15 L t k := by
  rw [h0, h1]
  rfl
theorem Zmj {L : List Capture} {t : Syntax} {x0 y0 : SV} (h0 : x0 = y0) : Z5d L t x0 = Z5d L t y0 := by rw [h0]
theorem Zsv (L : List Capture) (t : Syntax) (k : Nat) : aexec Tryz.prog (loopAt Tryz.f249 0) (Z15 L t k) [.br [.cells (syntaxF (List.getD (Syntax.items
 t) k default)), .call [Mode.rd, Mode.rd] [] (AV.sv (li (dee L (List.getD (Syntax.items t) k default)))), .ghost (.sel [] [0, 5, 20, 21, 22]), .goto (List.length
 (Syntax.items t) - (k + 1)) (Z15 L t (k + 1))] [.ghost (.sel [] [5]), .out 0]] (loopK (Z3b L t) (Ze3 L t) (List.length (Syntax.items t) - k))
 = ((decide ((k : Int) < (↑(List.length (List.map syntaxC (Syntax.items t))) : Int)) = true -> (0 <= (k : Int) /\ (List.map syntaxC (Syntax.items t))[Int.toNat (k : Int)]? = some
 (syntaxF (List.getD (Syntax.items t) k default))) /\ Zaz L (List.getD (Syntax.items t) k default) /\ rng .i64 ((k : Int) + 1) /\ List.length (Syntax.items t) - (k + 1)
 < List.length (Syntax.items t) - k /\ Zb0 L t (li ((k : Int) + 1)) (li (max (List.foldl (fun b x => max b (dee L x)) (dee0 L t) (List.take k (Syntax.items t))) (dee L
 (List.getD (Syntax.items t) k default)))) = Z15 L t (k + 1) /\ Z3b L t (List.length (Syntax.items t) - (k + 1)) (Z15 L t (k + 1))) /\ (decide ((k : Int)
 < (↑(List.length (List.map syntaxC (Syntax.items t))) : Int)) = false -> True /\ Z5d L t (li (List.foldl (fun b x => max b (dee L x)) (dee0 L t) (List.take k (Syntax.items
 t)))) = Z5d L t (li (dee L t)))) := by kernel_rfl
theorem Zxd (L : List Capture) (t : Syntax) (ih : ∀ (z : Syntax), z ∈ Syntax.items t -> ∀ (L : List Capture), Zaz L z)  : LoopSem Tryz.prog (loopAt Tryz.f249 0)
 (Z3b L t) (Ze3 L t) := by
  refine LoopSem.ofHead wide fun k h => ⟨_, _, Zsv L t k, ?_⟩
  with_reducible repeat' (first | apply And.intro | exact flatI | exact flatS | exact rowLens | exact ih | (intro; skip) | apply obsN | apply obsC | apply obA | apply obM | apply obB | apply svA | apply tupA | apply lcA | apply lcS | apply svC | apply liC | apply lbC | apply lsC | apply vIc | apply vBc | apply vSc | apply vLc | apply mapC | apply hdI | apply Zpa | apply Zmj | apply Z72 | apply ih)
  all_goals (try simp only [std] at *)
  all_goals (try (first | with_reducible apply Z72 | with_reducible apply ih | (simp only [<- List.map_append]; first | with_reducible apply Z72 | with_reducible apply ih)))
  all_goals (try (first | with_reducible rfl | omega | assumption | exact dT ‹_› | exact dF ‹_› | ((first | refine rowGet ?_ | refine getC ?_ rfl); (first | omega | (simp only [std]; omega) | grind)) | (show (_ : St) = _; rfl) | grind [foldl_step, getD_mem', dee_eq, snocI, snocS, rowSnoc]))
abbrev Z8o (L : List Capture) (t : Syntax) := (if Syntax.kind t = 1 then fnd L t else (-1 : Int))
theorem Zw5 (L : List Capture) (t : Syntax) : aexec Tryz.prog (Tryz.f249.body.getD .skip) (entry [] [ll (List.map captureC L), syntaxA t] 33) [.call
 [Mode.rd, Mode.rd] [] (AV.sv (li (Z8o L t))), .br [.cells (captureF (List.getD L (Int.toNat (Z8o L t)) default)), .ghost (.sel [] [0, 5, 20, 21,
 22]), .loop (List.length (Syntax.items t) - 0) (Z15 L t 0) (Z3b L t) [(True, AEx.exit 0, Z5d L t (li (dee L t)), [.fin []])]] [.ghost
 (.sel [] [0, 5, 20, 21, 22]), .loop (List.length (Syntax.items t) - 0) (Z15 L t 0) (Z3b L t) [(True, AEx.exit 0, Z5d L t (li (dee L t)),
 [.fin []])]]] (finK Tryz.prog [ResultVar.tmp 4] [] (AV.sv (li (dee L t)))) = (Zp6 L t /\ (decide (0 <= if Syntax.kind t = 1 then fnd L t else (-1 : Int)) = true -> ((0 <= if
 Syntax.kind t = 1 then fnd L t else (-1 : Int)) /\ (List.map captureC L)[Int.toNat (Z8o L t)]? = some (captureF (List.getD L (Int.toNat (Z8o L t)) default))) /\
 (List.length (List.map syntaxC (Syntax.items t)) <= 9223372036854775807 -> Zb0 L t (li 0) (li (Capture.depth (List.getD L (Int.toNat (Z8o L t)) default))) =
 Z15 L t 0 /\ Z3b L t (List.length (Syntax.items t) - 0) (Z15 L t 0) /\ LoopSem Tryz.prog (loopAt Tryz.f249 0) (Z3b L t) (Ze3 L t) /\
 (True -> ObsEq [] [] /\ AV.sv (li (dee L t)) = AV.sv (li (dee L t))) /\ True)) /\ (decide (0 <= if Syntax.kind t = 1 then fnd L t else (-1 : Int)) = false -> List.length (List.map
 syntaxC (Syntax.items t)) <= 9223372036854775807 -> Zb0 L t (li 0) (li (-1 : Int)) = Z15 L t 0 /\ Z3b L t (List.length (Syntax.items t) - 0) (Z15
 L t 0) /\ LoopSem Tryz.prog (loopAt Tryz.f249 0) (Z3b L t) (Ze3 L t) /\ (True -> ObsEq [] [] /\ AV.sv (li (dee L t)) = AV.sv (li (dee L t))) /\ True)) := by
 kernel_rfl
theorem Z10w (L : List Capture) (t : Syntax) (ih : ∀ z ∈ t.items, ∀ (L : List Capture), Zaz L z)  : Zaz L t := by
  refine CallOK.ofRun wide (Zw5 L t) Tryz.call249 Tryz.func249 rfl rfl rfl ?_
  try delta Z8o
  have g := fnd_lt L t
  with_reducible repeat' (first | apply And.intro | exact flatI | exact flatS | exact rowLens | exact ih | (intro; skip) | apply obsN | apply obsC | apply obA | apply obM | apply obB | apply svA | apply tupA | apply lcA | apply lcS | apply svC | apply liC | apply lbC | apply lsC | apply vIc | apply vBc | apply vSc | apply vLc | apply mapC | apply hdI | apply Zpa | apply Zxd | apply Zmj | apply Z72)
  all_goals (try simp only [std] at *)
  all_goals (try (first | with_reducible apply Z72 | with_reducible apply ih | (simp only [<- List.map_append]; first | with_reducible apply Z72 | with_reducible apply ih)))
  all_goals (try (first | with_reducible rfl | omega | assumption | exact dT ‹_› | exact dF ‹_› | ((first | refine rowGet ?_ | refine getC ?_ rfl); (first | omega | (simp only [std]; omega) | grind)) | (show (_ : St) = _; rfl) | grind [dee0, capD, snocI, snocS, rowSnoc]))
theorem Zj0 (t : Syntax) : ∀ (L : List Capture), Zaz L t := Syntax.ind (P := fun t => ∀ (L : List Capture), Zaz L t) (fun t ih L => Z10w L t ih) t
mutual
def tfit (L : List Capture) : Syntax -> Int -> Bool
  | ⟨k, n, t, s, l⟩, v => if k = 1 /\ 0 <= fnd L ⟨k, n, t, s, l⟩ then decide (capD L ⟨k, n, t, s, l⟩ <= v) else tfits L l v
def tfits (L : List Capture) : List Syntax -> Int -> Bool
  | [], _ => true
  | [x], v => if isDots x then true else tfit L x v
  | x :: y :: r, v => if isDots x then tfits L (y :: r) v else if isDots y then decide (v < dee L x) && tfit L x (v + 1) && tfits L (y :: r) v else tfit L x v && tfits L (y :: r) v
end
theorem tfit_eq (L : List Capture) (t : Syntax) (v : Int) : tfit L t v = if t.kind = 1 /\ 0 <= fnd L t then decide (capD L t <= v) else tfits L t.items v := by cases t; simp only [tfit]
theorem tfits_last {L : List Capture} {l : List Syntax} {k : Nat} {v : Int} (h : k + 1 = l.length) : tfits L (l.drop k) v = if isDots (l.getD k default) then true else tfit L (l.getD k default) v := by
  rw [drop_get (by omega), List.drop_eq_nil_of_le (by omega), tfits]
theorem tfits_step {L : List Capture} {l : List Syntax} {k : Nat} {v : Int} (h : k + 1 < l.length) : tfits L (l.drop k) v = if isDots (l.getD k default) then tfits L (l.drop (k + 1)) v else
    if isDots (l.getD (k + 1) default) then decide (v < dee L (l.getD k default)) && tfit L (l.getD k default) (v + 1) && tfits L (l.drop (k + 1)) v else tfit L (l.getD k default) v && tfits L (l.drop (k + 1)) v := by
  rw [drop_get (by omega : k < l.length), drop_get h, tfits]
theorem tfits_end {L : List Capture} {l : List Syntax} {k : Nat} {v : Int} (h : l.length <= k) : tfits L (l.drop k) v = true := by
  rw [List.drop_eq_nil_of_le h, tfits]
abbrev Z7s (L : List Capture) (t : Syntax) (v : Int) : Prop := CallOK Tryz.prog 222 [] [ll (L.map captureC), syntaxA t, li v] [] (.sv (lb (tfit L t v)))
def Z8p (L : List Capture) (t : Syntax) (v : Int) (x0 : SV) : St := St.mk (regsOf 62 [(0, AV.sv (ll (List.map captureC L))), (2, AV.sv (li v)), (4, AV.sv (SV.one (AC.ptr 0
 0))), (24, AV.sv (ll (List.map syntaxC (Syntax.items t)))), (25, AV.sv (li (↑(List.length (List.map syntaxC (Syntax.items t))) : Int))), (26, AV.sv x0)]) [Ob.box (vals (syntaxF
 t))] 0 
def Zv (L : List Capture) (t : Syntax) (v : Int) (k : Nat) : St := Z8p L t v (li (k : Int)) 
abbrev Z4l (L : List Capture) (t : Syntax) (v : Int) : Nat -> St -> Prop := Head (Zv L t v) (fun k => k <= List.length (Syntax.items t) /\ List.length (Syntax.items t)
 <= 9223372036854775807 /\ tfits L (Syntax.items t) v = tfits L (List.drop k (Syntax.items t)) v) fun k => List.length (Syntax.items t) - k 
def Zcn (L : List Capture) (t : Syntax) (v : Int) : St := St.mk (regsOf 62 []) [] 0 
def Zu (L : List Capture) (t : Syntax) (v : Int) (x0 : SV) : St := St.mk (regsOf 62 [(6, AV.sv x0)]) [] 0 
def Zjj (L : List Capture) (t : Syntax) (v : Int) : List (Prop × AEx × St) := [(tfits L (Syntax.items t) v = true, AEx.exit 0, Zcn L t v), (tfits L (Syntax.items
 t) v = false, AEx.ret, Zu L t v (lb false))]

theorem Zpb {L : List Capture} {t : Syntax} {v : Int} {k : Nat} {x0 : SV} (h0 : x0 = (li (k : Int))) : Z8p L t v x0 = Zv L t v k := by
  rw [h0]
  rfl
theorem Zmk {L : List Capture} {t : Syntax} {v : Int} {x0 y0 : SV} (h0 : x0 = y0) : Zu L t v x0 = Zu L t v y0 := by rw [h0]
abbrev a1__iTFit_sLa (L : List Capture) (t : Syntax) (v : Int) (k : Nat) := [Orc.ghost (Ghost.sel [0] [0, 2, 4, 24, 25, 26]), Orc.goto (List.length (Syntax.items t) - (k + 1))
 (Zv L t v (k + 1))]
abbrev a2__iTFit_sLa (L : List Capture) (t : Syntax) (v : Int) (k : Nat) := ((!tfit L (List.getD (Syntax.items t) k default) v) = false -> rng IntKind.i64 ((k : Int) + 1) /\
 List.length (Syntax.items t) - (k + 1) < List.length (Syntax.items t) - k /\ Z8p L t v (li ((k : Int) + 1)) = Zv L t v (k + 1) /\ Z4l L t v (List.length
 (Syntax.items t) - (k + 1)) (Zv L t v (k + 1)))
theorem Zsw (L : List Capture) (t : Syntax) (v : Int) (k : Nat) : aexec Tryz.prog (loopAt Tryz.f222 0) (Zv L t v k) [.br [.cells (syntaxF (List.getD
 (Syntax.items t) k default)), .call [Mode.rd] [] (AV.sv (lb (isDots (List.getD (Syntax.items t) k default)))), .br (a1__iTFit_sLa L t v k) [.br [.cells (syntaxF
 (List.getD (Syntax.items t) (k + 1) default)), .call [Mode.rd] [] (AV.sv (lb (isDots (List.getD (Syntax.items t) (k + 1) default)))), .br [.call [Mode.rd, Mode.rd] []
 (AV.sv (li (dee L (List.getD (Syntax.items t) k default)))), .br [.ghost (.sel [] [6]), .out 1] [.call [Mode.rd, Mode.rd, Mode.rd] [] (AV.sv (lb (tfit L
 (List.getD (Syntax.items t) k default) (v + 1)))), .br [.ghost (.sel [] [6]), .out 1] (a1__iTFit_sLa L t v k)]] [.call [Mode.rd, Mode.rd, Mode.rd] [] (AV.sv (lb
 (tfit L (List.getD (Syntax.items t) k default) v))), .br [.ghost (.sel [] [6]), .out 1] (a1__iTFit_sLa L t v k)]] [.bool false, .call [Mode.rd, Mode.rd,
 Mode.rd] [] (AV.sv (lb (tfit L (List.getD (Syntax.items t) k default) v))), .br [.ghost (.sel [] [6]), .out 1] (a1__iTFit_sLa L t v k)]]] [.ghost (.sel []
 []), .out 0]] (loopK (Z4l L t v) (Zjj L t v) (List.length (Syntax.items t) - k)) = ((decide ((k : Int) < (↑(List.length (List.map syntaxC (Syntax.items t)))
 : Int)) = true -> (0 <= (k : Int) /\ (List.map syntaxC (Syntax.items t))[Int.toNat (k : Int)]? = some (syntaxF (List.getD (Syntax.items t) k default))) /\ Z4k (List.getD
 (Syntax.items t) k default) /\ (isDots (List.getD (Syntax.items t) k default) = true -> rng .i64 ((k : Int) + 1) /\ List.length (Syntax.items t) - (k + 1) < List.length
 (Syntax.items t) - k /\ Z8p L t v (li ((k : Int) + 1)) = Zv L t v (k + 1) /\ Z4l L t v (List.length (Syntax.items t) - (k + 1)) (Zv L t v (k +
 1))) /\ (isDots (List.getD (Syntax.items t) k default) = false -> rng .i64 ((k : Int) + 1) /\ (List.length (List.map syntaxC (Syntax.items t)) <= 9223372036854775807 -> (decide
 ((k : Int) + 1 < (↑(List.length (List.map syntaxC (Syntax.items t))) : Int)) = true -> rng .i64 ((k : Int) + 1) /\ (0 <= (k : Int) + 1 /\ (List.map syntaxC (Syntax.items
 t))[Int.toNat ((k : Int) + 1)]? = some (syntaxF (List.getD (Syntax.items t) (k + 1) default))) /\ Z4k (List.getD (Syntax.items t) (k + 1) default) /\ (isDots (List.getD
 (Syntax.items t) (k + 1) default) = true -> Zaz L (List.getD (Syntax.items t) k default) /\ (decide (dee L (List.getD (Syntax.items t) k default) <= v) = true -> tfits L
 (Syntax.items t) v = false /\ Zu L t v (lb false) = Zu L t v (lb false)) /\ (decide (dee L (List.getD (Syntax.items t) k default) <= v) = false -> rng
 IntKind.i64 (v + 1) /\ Z7s L (List.getD (Syntax.items t) k default) (v + 1) /\ ((!tfit L (List.getD (Syntax.items t) k default) (v + 1)) = true -> tfits L (Syntax.items t) v =
 false /\ Zu L t v (lb false) = Zu L t v (lb false)) /\ ((!tfit L (List.getD (Syntax.items t) k default) (v + 1)) = false -> rng .i64 ((k : Int) + 1) /\
 List.length (Syntax.items t) - (k + 1) < List.length (Syntax.items t) - k /\ Z8p L t v (li ((k : Int) + 1)) = Zv L t v (k + 1) /\ Z4l L t v (List.length
 (Syntax.items t) - (k + 1)) (Zv L t v (k + 1))))) /\ (isDots (List.getD (Syntax.items t) (k + 1) default) = false -> Z7s L (List.getD (Syntax.items t) k default) v /\
 ((!tfit L (List.getD (Syntax.items t) k default) v) = true -> tfits L (Syntax.items t) v = false /\ Zu L t v (lb false) = Zu L t v (lb false)) /\ (a2__iTFit_sLa
 L t v k))) /\ (decide ((k : Int) + 1 < (↑(List.length (List.map syntaxC (Syntax.items t))) : Int)) = false -> false = false /\ Z7s L (List.getD (Syntax.items t) k default) v /\
 ((!tfit L (List.getD (Syntax.items t) k default) v) = true -> tfits L (Syntax.items t) v = false /\ Zu L t v (lb false) = Zu L t v (lb false)) /\ (a2__iTFit_sLa
 L t v k))))) /\ (decide ((k : Int) < (↑(List.length (List.map syntaxC (Syntax.items t))) : Int)) = false -> tfits L (Syntax.items t) v = true /\ Zcn L t v = Zcn
 L t v)) := by kernel_rfl
theorem Zxe (L : List Capture) (t : Syntax) (v : Int) (h : 0 <= v /\ v + (↑(depY t) : Int) <= 1000) (ih : ∀ (z : Syntax), z ∈ Syntax.items t -> ∀ (L : List Capture) (v : Int),
 0 <= v /\ v + (↑(depY z) : Int) <= 1000 -> Z7s L z v)  : LoopSem Tryz.prog (loopAt Tryz.f222 0) (Z4l L t v) (Zjj L t v) := by
  refine LoopSem.ofHead wide fun k h => ⟨_, _, Zsw L t v k, ?_⟩
  try delta a1__iTFit_sLa a2__iTFit_sLa
  have g1 := @tfits_last L t.items k v
  have g2 := @tfits_step L t.items k v
  have g3 := @tfits_end L t.items (k + 1) v
  have g4 := @tfits_end L t.items k v
  have g5 := @depY_item t k
  with_reducible repeat' (first | apply And.intro | exact flatI | exact flatS | exact rowLens | exact ih | (intro; skip) | apply obsN | apply obsC | apply obA | apply obM | apply obB | apply svA | apply tupA | apply lcA | apply lcS | apply svC | apply liC | apply lbC | apply lsC | apply vIc | apply vBc | apply vSc | apply vLc | apply mapC | apply hdI | apply Zpb | apply Zmk | apply Z72 | apply Z0 | apply Zj0 | apply ih)
  all_goals (try simp only [std] at *)
  all_goals (try (first | with_reducible apply Z72 | with_reducible apply Z0 | with_reducible apply Zj0 | with_reducible apply ih | (simp only [<- List.map_append]; first | with_reducible apply Z72 | with_reducible apply Z0 | with_reducible apply Zj0 | with_reducible apply ih)))
  all_goals (try (first | with_reducible rfl | omega | assumption | exact dT ‹_› | exact dF ‹_› | ((first | refine rowGet ?_ | refine getC ?_ rfl); (first | omega | (simp only [std]; omega) | grind)) | (show (_ : St) = _; rfl) | grind [getD_mem', snocI, snocS, rowSnoc]))
abbrev Z8q (L : List Capture) (t : Syntax) := (if Syntax.kind t = 1 then fnd L t else (-1 : Int))
theorem Zw6 (L : List Capture) (t : Syntax) (v : Int) : aexec Tryz.prog (Tryz.f222.body.getD .skip) (entry [] [ll (List.map captureC L), syntaxA t, li
 v] 62) [.call [Mode.rd, Mode.rd] [] (AV.sv (li (Z8q L t))), .br [.cells (captureF (List.getD L (Int.toNat (Z8q L t)) default)), .fin []] [.ghost
 (.sel [0] [0, 2, 4, 24, 25, 26]), .loop (List.length (Syntax.items t) - 0) (Zv L t v 0) (Z4l L t v) [(tfits L (Syntax.items t) v = true, AEx.exit 0,
 Zcn L t v, [.fin []]), (tfits L (Syntax.items t) v = false, AEx.ret, Zu L t v (lb false), [.fin []])]]] (finK Tryz.prog [ResultVar.tmp 6] [] (AV.sv (lb
 (tfit L t v)))) = (Zp6 L t /\ (decide (0 <= if Syntax.kind t = 1 then fnd L t else (-1 : Int)) = true -> ((0 <= if Syntax.kind t = 1 then fnd L t else (-1 : Int)) /\ (List.map
 captureC L)[Int.toNat (Z8q L t)]? = some (captureF (List.getD L (Int.toNat (Z8q L t)) default))) /\ ObsEq [] [] /\ AV.sv (lb (decide (Capture.depth (List.getD L
 (Int.toNat (Z8q L t)) default) <= v))) = AV.sv (lb (tfit L t v))) /\ (decide (0 <= if Syntax.kind t = 1 then fnd L t else (-1 : Int)) = false -> List.length (List.map syntaxC
 (Syntax.items t)) <= 9223372036854775807 -> Z8p L t v (li 0) = Zv L t v 0 /\ Z4l L t v (List.length (Syntax.items t) - 0) (Zv L t v 0) /\ LoopSem
 Tryz.prog (loopAt Tryz.f222 0) (Z4l L t v) (Zjj L t v) /\ (tfits L (Syntax.items t) v = true -> ObsEq [] [] /\ AV.sv (lb true) = AV.sv (lb (tfit L t v))) /\ (tfits L
 (Syntax.items t) v = false -> ObsEq [] [] /\ AV.sv (lb false) = AV.sv (lb (tfit L t v))) /\ True)) := by kernel_rfl
theorem Z10x (L : List Capture) (t : Syntax) (v : Int) (h : 0 <= v /\ v + depY t <= 1000) (ih : ∀ z ∈ t.items, ∀ (L : List Capture) (v : Int) (h : 0 <= v /\ v + depY z <= 1000),
 Z7s L z v)  : Z7s L t v := by
  refine CallOK.ofRun wide (Zw6 L t v) Tryz.call222 Tryz.func222 rfl rfl rfl ?_
  try delta Z8q
  have g := fnd_lt L t
  with_reducible repeat' (first | apply And.intro | exact flatI | exact flatS | exact rowLens | exact ih | (intro; skip) | apply obsN | apply obsC | apply obA | apply obM | apply obB | apply svA | apply tupA | apply lcA | apply lcS | apply svC | apply liC | apply lbC | apply lsC | apply vIc | apply vBc | apply vSc | apply vLc | apply mapC | apply hdI | apply Zpb | apply Zxe | apply Zmk | apply Z72 | apply Z0 | apply Zj0)
  all_goals (try simp only [std] at *)
  all_goals (try (first | with_reducible apply Z72 | with_reducible apply Z0 | with_reducible apply Zj0 | with_reducible apply ih | (simp only [<- List.map_append]; first | with_reducible apply Z72 | with_reducible apply Z0 | with_reducible apply Zj0 | with_reducible apply ih)))
  all_goals (try (first | with_reducible rfl | omega | assumption | exact dT ‹_› | exact dF ‹_› | ((first | refine rowGet ?_ | refine getC ?_ rfl); (first | omega | (simp only [std]; omega) | grind)) | (show (_ : St) = _; rfl) | grind [tfit_eq, capD, snocI, snocS, rowSnoc]))
theorem Zj1 (t : Syntax) : ∀ (L : List Capture) (v : Int) (h : 0 <= v /\ v + depY t <= 1000), Z7s L t v := Syntax.ind (P := fun t => ∀ (L : List Capture) (v : Int) (h : 0 <= v /\ v + depY t <= 1000), Z7s L t v) (fun t ih L v h => Z10x L t v h ih) t
theorem foldl_max (f : Syntax -> Int) (v : Int) : ∀ (l : List Syntax) (b : Int), v < l.foldl (fun b x => max b (f x)) b ↔ v < b ∨ ∃ x ∈ l, v < f x
  | [], b => by simp
  | x :: r, b => by
    rw [List.foldl_cons, foldl_max f v r]
    have e : v < max b (f x) ↔ v < b ∨ v < f x := by omega
    simp only [List.mem_cons, exists_eq_or_imp, e, or_assoc]
theorem okY_sym {t : Syntax} (h : okY t = true) (hk : t.kind = 1) : t.items = [] := by
  rw [okY_eq] at h
  simp only [nodY0, nodD, Bool.and_eq_true, Bool.or_eq_true, decide_eq_true_eq] at h
  have : t.items.length = 0 := by omega
  exact List.length_eq_zero_iff.1 this
theorem okY_item {t : Syntax} (h : okY t = true) : ∀ x ∈ t.items, okY x = true := by
  rw [okY_eq, Bool.and_eq_true, List.all_eq_true] at h; exact h.1
theorem drv_dee (L : List Capture) (v : Int) (hv : 0 <= v) : ∀ t : Syntax, okY t = true -> (drv L v t = decide (v < dee L t)) := by
  refine Syntax.ind fun t ih h => ?_
  rw [Bool.eq_iff_iff, decide_eq_true_eq, drv_eq, dee_eq, foldl_max]
  by_cases hk : t.kind = 1
  . rw [if_pos hk, okY_sym h hk]
    simp only [Bool.and_eq_true, decide_eq_true_eq, List.not_mem_nil, false_and, exists_false, or_false, dee0, hk, true_and]
    split <;> omega
  . rw [if_neg hk, List.any_eq_true]
    have : ¬ v < dee0 L t := by unfold dee0; rw [if_neg (by omega)]; omega
    constructor
    . rintro ⟨x, hx, e⟩
      exact .inr ⟨x, hx, by have := ih x hx (okY_item h x hx); rw [e] at this; exact of_decide_eq_true this.symm⟩
    . rintro (e | ⟨x, hx, e⟩)
      . exact absurd e this
      . exact ⟨x, hx, by rw [ih x hx (okY_item h x hx)]; exact decide_eq_true e⟩
theorem fit_dots {L : List Capture} {x : Syntax} {v : Int} (h : isDots x = true) : fit L x v = false := by
  have hk : x.kind = 1 := by simp only [isDots, Bool.and_eq_true, decide_eq_true_eq] at h; exact h.1
  rw [fit_eq, if_pos hk, h]; rfl
theorem dotfs_flag {x : Syntax} {r : List Syntax} {b : Bool} (h : isDots x = false) : dotfs b (x :: r) = dotfs true (x :: r) := by simp only [dotfs, h]; rfl
theorem fits_all (L : List Capture) : ∀ (l : List Syntax), (∀ x ∈ l, okY x = true /\ ∀ v, 0 <= v -> fit L x v = (dotf x && tfit L x v)) -> ∀ v, 0 <= v -> fits L l v = (dotfs true l && tfits L l v)
  | [], _, v, _ => by simp [fits, dotfs, tfits]
  | [x], h, v, hv => by
    rw [fits, tfits, dotfs]
    have h1 := (h x List.mem_cons_self).2 v hv
    by_cases e : isDots x = true
    . rw [if_pos e, if_pos e, fit_dots e]; rfl
    . rw [if_neg e, if_neg e, h1]; simp [dotfs]
  | x :: y :: r, h, v, hv => by
    have hx := h x List.mem_cons_self
    have h1 := hx.2 v hv
    have h2 := hx.2 (v + 1) (by omega)
    have ihr := fits_all L r (fun z hz => h z (List.mem_cons_of_mem _ (List.mem_cons_of_mem _ hz))) v hv
    have ihy := fits_all L (y :: r) (fun z hz => h z (List.mem_cons_of_mem _ hz)) v hv
    have hd := drv_dee L v hv x hx.1
    rw [fits, tfits]
    by_cases ey : isDots y = true
    . rw [if_pos ey]
      by_cases ex : isDots x = true
      . rw [ex, dotfs, if_pos ex]; simp
      . have ex' : isDots x = false := by simpa using ex
        have hy : dotfs false (y :: r) = dotfs true r := by rw [dotfs, if_pos ey]; rfl
        have hyt : tfits L (y :: r) v = tfits L r v := by
          cases r with
          | nil => simp only [tfits, if_pos ey]
          | cons z r => rw [tfits, if_pos ey]
        rw [if_neg ex, if_pos ey, dotfs, if_neg ex, hy, hyt, ihr, hd, h2, ex']
        cases dotf x <;> cases dotfs true r <;> cases decide (v < dee L x) <;> cases tfit L x (v + 1) <;> cases tfits L r v <;> rfl
    . have ey' : isDots y = false := by simpa using ey
      rw [if_neg ey]
      by_cases ex : isDots x = true
      . rw [fit_dots ex, dotfs, if_pos ex]; simp
      . rw [if_neg ex, if_neg ey, dotfs, if_neg ex, dotfs_flag ey', ihy, h1]
        cases dotf x <;> cases dotfs true (y :: r) <;> cases tfit L x v <;> cases tfits L (y :: r) v <;> rfl
theorem fit_all (L : List Capture) : ∀ t : Syntax, okY t = true -> ∀ v, 0 <= v -> fit L t v = (dotf t && tfit L t v) := by
  refine Syntax.ind fun t ih h v hv => ?_
  rw [fit_eq, dotf_eq, tfit_eq]
  by_cases hk : t.kind = 1
  . rw [if_pos hk, okY_sym h hk]
    by_cases h0 : 0 <= fnd L t
    . rw [if_pos ⟨hk, h0⟩, decide_eq_false (by omega : ¬ fnd L t < 0)]; simp [dotfs]
    . rw [if_neg (fun e => h0 e.2), decide_eq_true (by omega : fnd L t < 0)]; simp [dotfs, tfits]
  . have hd : isDots t = false := by simp [isDots, hk]
    rw [if_neg hk, if_neg (fun e => hk e.1), hd, fits_all L t.items (fun x hx => ⟨okY_item h x hx, fun v hv => ih x hx (okY_item h x hx) v hv⟩) v hv]
    simp
theorem tmF_eq (L : List Capture) (t : Syntax) : tmF L t = (L.all (fun x => isId x.name && decide (0 <= x.depth)) && (isSyn t && (dotf t && tfit L t 0))) := by
  unfold tmF
  by_cases h : isSyn t = true
  . have h2 : okY t = true := by simp only [isSyn, Bool.and_eq_true] at h; exact h.2
    rw [fit_all L t h2 0 (Int.le_refl _), Bool.and_assoc]
  . have : isSyn t = false := by simpa using h
    rw [this]; simp
abbrev Zxf (L : List Capture) (t : Syntax) : Prop := CallOK Tryz.prog 164 [] [ll (L.map captureC), syntaxA t] [] (.sv (lb (tmF L t)))
def Zkf (L : List Capture) (t : Syntax) (x0 : SV) : St := St.mk (regsOf 34 [(0, AV.sv (ll (List.map captureC L))), (3, AV.sv (SV.one (AC.ptr 0 0))), (7, AV.sv (ll (List.map
 captureC L))), (8, AV.sv (li (↑(List.length (List.map captureC L)) : Int))), (9, AV.sv x0)]) [Ob.box (vals (syntaxF t))] 0 
def Z7t (L : List Capture) (t : Syntax) (k : Nat) : St := Zkf L t (li (k : Int)) 
abbrev Zde (L : List Capture) (t : Syntax) : Nat -> St -> Prop := Head (Z7t L t) (fun k => k <= List.length L /\ List.length L <= 9223372036854775807 /\ (List.all (List.take k
 L) fun x => isId (Capture.name x) && decide (0 <= Capture.depth x)) = true) fun k => List.length L - k 
def Zid (L : List Capture) (t : Syntax) : St := St.mk (regsOf 34 [(0, AV.sv (ll (List.map captureC L))), (3, AV.sv (SV.one (AC.ptr 0 0)))]) [Ob.box (vals (syntaxF t))] 0 
def Z7u (L : List Capture) (t : Syntax) (x0 : SV) : St := St.mk (regsOf 34 [(4, AV.sv x0)]) [] 0 
def Zpc (L : List Capture) (t : Syntax) : List (Prop × AEx × St) := [((List.all L fun x => isId (Capture.name x) && decide (0 <= Capture.depth x)) = true, AEx.exit 0,
 Zid L t), ((List.all L fun x => isId (Capture.name x) && decide (0 <= Capture.depth x)) = false, AEx.ret, Z7u L t (lb false))]

theorem Zvi {L : List Capture} {t : Syntax} {k : Nat} {x0 : SV} (h0 : x0 = (li (k : Int))) : Zkf L t x0 = Z7t L t k := by
  rw [h0]
  rfl
theorem Zqs {L : List Capture} {t : Syntax} {x0 y0 : SV} (h0 : x0 = y0) : Z7u L t x0 = Z7u L t y0 := by rw [h0]
abbrev Zg4 (L : List Capture) (k : Nat) := (decide (Syntax.kind (Capture.name (List.getD L k default)) = 1) && isSyn (Capture.name (List.getD L k default)))
theorem Zxg (L : List Capture) (t : Syntax) (k : Nat) : aexec Tryz.prog (loopAt Tryz.f164 0) (Z7t L t k) [.br [.cells (captureF (List.getD L k default)),
 .call [Mode.rd] [] (AV.sv (lb (Zg4 L k))), .br [.bool true, .ghost (.sel [] [4]), .out 1] [.br [.ghost (.sel [] [4]), .out 1] [.ghost
 (.sel [0] [0, 3, 7, 8, 9]), .goto (List.length L - (k + 1)) (Z7t L t (k + 1))]]] [.ghost (.sel [0] [0, 3]), .out 0]] (loopK (Zde L t) (Zpc L
 t) (List.length L - k)) = ((decide ((k : Int) < (↑(List.length (List.map captureC L)) : Int)) = true -> (0 <= (k : Int) /\ (List.map captureC L)[Int.toNat (k : Int)]? = some
 (captureF (List.getD L k default))) /\ Zh0 (Capture.name (List.getD L k default)) /\ ((!(Zg4 L k)) = true -> true = true /\ (List.all L fun x => isId (Capture.name x) &&
 decide (0 <= Capture.depth x)) = false /\ Z7u L t (lb false) = Z7u L t (lb false)) /\ ((!(Zg4 L k)) = false -> (decide (Capture.depth (List.getD L k default) <
 0) = true -> (List.all L fun x => isId (Capture.name x) && decide (0 <= Capture.depth x)) = false /\ Z7u L t (lb false) = Z7u L t (lb false)) /\ (decide (Capture.depth
 (List.getD L k default) < 0) = false -> rng .i64 ((k : Int) + 1) /\ List.length L - (k + 1) < List.length L - k /\ Zkf L t (li ((k : Int) + 1)) = Z7t L t (k + 1)
 /\ Zde L t (List.length L - (k + 1)) (Z7t L t (k + 1))))) /\ (decide ((k : Int) < (↑(List.length (List.map captureC L)) : Int)) = false -> (List.all L fun x => isId
 (Capture.name x) && decide (0 <= Capture.depth x)) = true /\ Zid L t = Zid L t)) := by kernel_rfl
theorem Z10y (L : List Capture) (t : Syntax)  : LoopSem Tryz.prog (loopAt Tryz.f164 0) (Zde L t) (Zpc L t) := by
  refine LoopSem.ofHead wide fun k h => ⟨_, _, Zxg L t k, ?_⟩
  try delta Zg4
  with_reducible repeat' (first | apply And.intro | exact flatI | exact flatS | exact rowLens | (intro; skip) | apply obsN | apply obsC | apply obA | apply obM | apply obB | apply svA | apply tupA | apply lcA | apply lcS | apply svC | apply liC | apply lbC | apply lsC | apply vIc | apply vBc | apply vSc | apply vLc | apply mapC | apply hdI | apply Zvi | apply Zqs | apply Z1c | apply Za | apply Zbc | apply Zj1)
  all_goals (try simp only [std] at *)
  all_goals (try (first | with_reducible apply Z1c | with_reducible apply Za | with_reducible apply Zbc | with_reducible apply Zj1 | (simp only [<- List.map_append]; first | with_reducible apply Z1c | with_reducible apply Za | with_reducible apply Zbc | with_reducible apply Zj1)))
  all_goals (try (first | with_reducible rfl | omega | assumption | exact dT ‹_› | exact dF ‹_› | ((first | refine rowGet ?_ | refine getC ?_ rfl); (first | omega | (simp only [std]; omega) | grind)) | (show (_ : St) = _; rfl) | grind [take_get, isId, getD_mem', snocI, snocS, rowSnoc]))
theorem Z107 (L : List Capture) (t : Syntax) : aexec Tryz.prog (Tryz.f164.body.getD .skip) (entry [] [ll (List.map captureC L), syntaxA t] 34) [.ghost
 (.sel [0] [0, 3, 7, 8, 9]), .loop (List.length L - 0) (Z7t L t 0) (Zde L t) [((List.all L fun x => isId (Capture.name x) && decide (0 <= Capture.depth x)) =
 true, AEx.exit 0, Zid L t, [.call [Mode.rd] [] (AV.sv (lb (isSyn t))), .br [.call [Mode.rd] [] (AV.sv (lb (dotf t))), .br [.call [Mode.rd, Mode.rd, Mode.rd]
 [] (AV.sv (lb (tfit L t 0))), .fin []] [.fin []]] [.bool false, .fin []]]), ((List.all L fun x => isId (Capture.name x) && decide (0 <= Capture.depth x)) = false,
 AEx.ret, Z7u L t (lb false), [.fin []])]] (finK Tryz.prog [ResultVar.tmp 4] [] (AV.sv (lb (tmF L t)))) = (List.length (List.map captureC L) <= 9223372036854775807 ->
 Zkf L t (li 0) = Z7t L t 0 /\ Zde L t (List.length L - 0) (Z7t L t 0) /\ LoopSem Tryz.prog (loopAt Tryz.f164 0) (Zde L t) (Zpc L t) /\ ((List.all
 L fun x => isId (Capture.name x) && decide (0 <= Capture.depth x)) = true -> Z9l t /\ (isSyn t = true -> Z6u t /\ (dotf t = true -> Z7s L t 0 /\ ObsEq [] [] /\
 AV.sv (lb (tfit L t 0)) = AV.sv (lb (tmF L t))) /\ (dotf t = false -> ObsEq [] [] /\ AV.sv (lb false) = AV.sv (lb (tmF L t)))) /\ (isSyn t = false -> false = false /\ ObsEq [] [] /\
 AV.sv (lb false) = AV.sv (lb (tmF L t)))) /\ ((List.all L fun x => isId (Capture.name x) && decide (0 <= Capture.depth x)) = false -> ObsEq [] [] /\ AV.sv (lb false) = AV.sv (lb (tmF
 L t))) /\ True) := by kernel_rfl
theorem Zml (L : List Capture) (t : Syntax)  : Zxf L t := by
  refine CallOK.ofRun wide (Z107 L t) Tryz.call164 Tryz.func164 rfl rfl rfl ?_
  with_reducible repeat' (first | apply And.intro | exact flatI | exact flatS | exact rowLens | (intro; skip) | apply obsN | apply obsC | apply obA | apply obM | apply obB | apply svA | apply tupA | apply lcA | apply lcS | apply svC | apply liC | apply lbC | apply lsC | apply vIc | apply vBc | apply vSc | apply vLc | apply mapC | apply hdI | apply Zvi | apply Z10y | apply Zqs | apply Z1c | apply Za | apply Zbc | apply Zj1)
  all_goals (try simp only [std] at *)
  all_goals (try (first | with_reducible apply Z1c | with_reducible apply Za | with_reducible apply Zbc | with_reducible apply Zj1 | (simp only [<- List.map_append]; first | with_reducible apply Z1c | with_reducible apply Za | with_reducible apply Zbc | with_reducible apply Zj1)))
  all_goals (try (first | with_reducible rfl | omega | assumption | exact dT ‹_› | exact dF ‹_› | ((first | refine rowGet ?_ | refine getC ?_ rfl); (first | omega | (simp only [std]; omega) | grind)) | (show (_ : St) = _; rfl) | grind [tmF_eq, isSyn, snocI, snocS, rowSnoc]))
end Go.Proofs.YtegbadciefljcaaGreat
end
