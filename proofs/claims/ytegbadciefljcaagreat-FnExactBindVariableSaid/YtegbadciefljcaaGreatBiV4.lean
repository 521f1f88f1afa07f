/- Part 4 of the proof: The program's BindVariable returns what the reference's returns, for all arguments. No condition. -/
import Derived.Test.YtegbadciefljcaaGreatBiV3
section
namespace Go.Proofs.YtegbadciefljcaaGreat
open Go Go.Proofs.YtegbadciefljcaaGreat.Ab
set_option linter.unusedVariables false
set_option linter.unusedSimpArgs false
set_option maxHeartbeats 4000000
def bndM (k : Int) : Int := if k = 1 then 11 else if k = 2 then 13 else if k = 3 then 99999 else if k = 4 then 99999 else -1
def isBnd (b : Binding) : Bool := isSym b.text && okSc b.scopes && decide (0 <= b.number /\ b.number <= bndM b.kind)
abbrev Zt7 (b : Binding) : Prop := CallOK Tryz.prog 150 [] [bindingA b] [] (.sv (lb (isBnd b)))
abbrev Z9z (b : Binding) := (isSym (Binding.text b) = false -> false = false /\ ObsEq [] [] /\ AV.sv (lb false) = AV.sv (lb (isBnd b)))
abbrev Zc9 (b : Binding) := (okSc (Binding.scopes b) = false -> ObsEq [] [] /\ AV.sv (lb false) = AV.sv (lb (isBnd b)))
abbrev Zld (b : Binding) := (isSym (Binding.text b) = true -> Z9s (Binding.scopes b) /\ (okSc (Binding.scopes b) = true -> Z3o (Binding.number b) 0 99999 /\ ObsEq
 [] [] /\ AV.sv (lb (decide (0 <= Binding.number b /\ Binding.number b <= 99999))) = AV.sv (lb (isBnd b))) /\ (Zc9 b))
theorem Zxt (b : Binding) : aexec Tryz.prog (Tryz.f150.body.getD .skip) (entry [] [bindingA b] 33) [.br [.call [] [Ob.arr true 1 (List.map strC
 formNames)] (AV.sv (SV.one (AC.ref 0))), .call [Mode.rd] [] (AV.sv (lb (isSym (Binding.text b)))), .br [.call [Mode.rd] [] (AV.sv (lb (okSc (Binding.scopes b)))), .br
 [.call [Mode.rd, Mode.rd, Mode.rd] [] (AV.sv (lb (decide (0 <= Binding.number b /\ Binding.number b <= 11)))), .fin []] [.fin []]] [.bool false, .fin []]] [.br
 [.call [] [Ob.arr true 1 (List.map strC primNames)] (AV.sv (SV.one (AC.ref 0))), .call [Mode.rd] [] (AV.sv (lb (isSym (Binding.text b)))), .br [.call [Mode.rd] []
 (AV.sv (lb (okSc (Binding.scopes b)))), .br [.call [Mode.rd, Mode.rd, Mode.rd] [] (AV.sv (lb (decide (0 <= Binding.number b /\ Binding.number b <= 13)))), .fin []] [.fin
 []]] [.bool false, .fin []]] [.br [.bool true, .call [Mode.rd] [] (AV.sv (lb (isSym (Binding.text b)))), .br [.call [Mode.rd] [] (AV.sv (lb (okSc
 (Binding.scopes b)))), .br [.call [Mode.rd, Mode.rd, Mode.rd] [] (AV.sv (lb (decide (0 <= Binding.number b /\ Binding.number b <= 99999)))), .fin []] [.fin []]] [.bool
 false, .fin []]] [.br [.call [Mode.rd] [] (AV.sv (lb (isSym (Binding.text b)))), .br [.call [Mode.rd] [] (AV.sv (lb (okSc (Binding.scopes b)))), .br [.call
 [Mode.rd, Mode.rd, Mode.rd] [] (AV.sv (lb (decide (0 <= Binding.number b /\ Binding.number b <= 99999)))), .fin []] [.fin []]] [.bool false, .fin []]] [.call [Mode.rd]
 [] (AV.sv (lb (isSym (Binding.text b)))), .br [.call [Mode.rd] [] (AV.sv (lb (okSc (Binding.scopes b)))), .br [.call [Mode.rd, Mode.rd, Mode.rd] [] (AV.sv (lb (decide
 (0 <= Binding.number b /\ Binding.number b <= (-1 : Int))))), .fin []] [.fin []]] [.bool false, .fin []]]]]]] (finK Tryz.prog [ResultVar.tmp 2] [] (AV.sv (lb (isBnd b))))
 = ((decide (Binding.kind b = 1) = true -> Zmo /\ (12 <= 9223372036854775807 -> rng .i64 11 /\ Z5a (Binding.text b) /\ (isSym (Binding.text b) = true ->
 Z9s (Binding.scopes b) /\ (okSc (Binding.scopes b) = true -> Z3o (Binding.number b) 0 11 /\ ObsEq [] [] /\ AV.sv (lb (decide (0 <= Binding.number b /\ Binding.number b <=
 11))) = AV.sv (lb (isBnd b))) /\ (Zc9 b)) /\ (Z9z b))) /\ (decide (Binding.kind b = 1) = false -> (decide (Binding.kind b = 2) = true -> Zf3 /\ (14 <=
 9223372036854775807 -> rng .i64 13 /\ Z5a (Binding.text b) /\ (isSym (Binding.text b) = true -> Z9s (Binding.scopes b) /\ (okSc (Binding.scopes b) = true ->
 Z3o (Binding.number b) 0 13 /\ ObsEq [] [] /\ AV.sv (lb (decide (0 <= Binding.number b /\ Binding.number b <= 13))) = AV.sv (lb (isBnd b))) /\ (Zc9 b)) /\ (Z9z b)))
 /\ (decide (Binding.kind b = 2) = false -> (decide (Binding.kind b = 3) = true -> true = true /\ Z5a (Binding.text b) /\ (Zld b) /\ (Z9z b)) /\ (decide
 (Binding.kind b = 3) = false -> (decide (Binding.kind b = 4) = true -> Z5a (Binding.text b) /\ (Zld b) /\ (Z9z b)) /\ (decide (Binding.kind b = 4) = false ->
 Z5a (Binding.text b) /\ (isSym (Binding.text b) = true -> Z9s (Binding.scopes b) /\ (okSc (Binding.scopes b) = true -> Z3o (Binding.number b) 0 (-1 : Int) /\
 ObsEq [] [] /\ AV.sv (lb (decide (0 <= Binding.number b /\ Binding.number b <= (-1 : Int)))) = AV.sv (lb (isBnd b))) /\ (Zc9 b)) /\ (Z9z b)))))) := by kernel_rfl
theorem Zfh (b : Binding)  : Zt7 b := by
  refine CallOK.ofRun wide (Zxt b) Tryz.call150 Tryz.func150 rfl rfl rfl ?_
  try delta Z9z Zc9 Zld
  have e1 : formNames.length = 12 := rfl
  have e2 : primNames.length = 14 := rfl
  with_reducible repeat' (first | apply And.intro | exact flatI | exact flatS | exact rowLens | (intro; skip) | apply obsN | apply obsC | apply obA | apply obM | apply obB | apply svA | apply tupA | apply lcA | apply lcS | apply svC | apply liC | apply lbC | apply lsC | apply vIc | apply vBc | apply vSc | apply vLc | apply mapC | apply mIc | apply mOc | apply mSc | apply mLc | apply Z9q | apply Z7l | apply Z2 | apply Zjq | apply Zc1)
  all_goals (try simp only [std] at *)
  all_goals (try (first | with_reducible apply Z9q | with_reducible apply Z7l | with_reducible apply Z2 | with_reducible apply Zjq | with_reducible apply Zc1 | (simp only [<- List.map_append]; first | with_reducible apply Z9q | with_reducible apply Z7l | with_reducible apply Z2 | with_reducible apply Zjq | with_reducible apply Zc1)))
  all_goals (try (first | with_reducible rfl | omega | assumption | exact dT ‹_› | exact dF ‹_› | ((first | refine rowGet ?_ | refine getC ?_ rfl); (first | omega | (simp only [std]; omega) | grind)) | exact look_mI | exact look_mO | exact look_mO1 | exact look_mS | exact look_mL | exact upd_mI | exact upd_mO | exact del_mO | exact upd_mS | exact take_mL | (refine upd_mL ?_; grind) | (show (_ : St) = _; rfl) | grind [isBnd, bndM, snocI, snocS, rowSnoc]))
abbrev Zt8 (b : Binding) : Prop := CallOK Tryz.prog 159 [] [bindingA b] [] (.sv (lb (isBnd b)))
theorem Zxu (b : Binding) : aexec Tryz.prog (Tryz.f159.body.getD .skip) (entry [] [bindingA b] 40) [.call [Mode.rd] [] (AV.sv (lb (isSym (Binding.text
 b)))), .br [.bool true, .bool true, .fin []] [.call [Mode.rd] [] (AV.sv (lb (okSc (Binding.scopes b)))), .br [.bool true, .fin []] [.br [.fin []]
 [.br [.draw [], .call [] [Ob.arr true 1 (List.map strC formNames)] (AV.sv (SV.one (AC.ref 0))), .fin []] [.br [.draw [], .call [] [Ob.arr true 1 (List.map
 strC primNames)] (AV.sv (SV.one (AC.ref 0))), .fin []] [.br [.bool true, .fin []] [.br [.fin []] [.fin []]]]]]]]] (finK Tryz.prog [ResultVar.tmp 2] [] (AV.sv
 (lb (isBnd b)))) = (Zha (Binding.text b) /\ ((!isSym (Binding.text b)) = true -> true = true /\ true = true /\ ObsEq [] [] /\ AV.sv (lb false) = AV.sv (lb (isBnd b))) /\
 ((!isSym (Binding.text b)) = false -> Zfy (Binding.scopes b) /\ ((!okSc (Binding.scopes b)) = true -> true = true /\ ObsEq [] [] /\ AV.sv (lb false) = AV.sv (lb (isBnd b))) /\
 ((!okSc (Binding.scopes b)) = false -> (decide (Binding.number b < 0) = true -> ObsEq [] [] /\ AV.sv (lb false) = AV.sv (lb (isBnd b))) /\ (decide (Binding.number b < 0) = false ->
 (decide (Binding.kind b = 1) = true -> Zmq /\ (12 <= 9223372036854775807 -> ObsEq [] [] /\ AV.sv (lb (decide (Binding.number b < 12))) = AV.sv (lb (isBnd b)))) /\ (decide
 (Binding.kind b = 1) = false -> (decide (Binding.kind b = 2) = true -> Zf4 /\ (14 <= 9223372036854775807 -> ObsEq [] [] /\ AV.sv (lb (decide (Binding.number b < 14))) =
 AV.sv (lb (isBnd b)))) /\ (decide (Binding.kind b = 2) = false -> (decide (Binding.kind b = 3) = true -> true = true /\ ObsEq [] [] /\ AV.sv (lb (decide (Binding.number b <= 99999))) =
 AV.sv (lb (isBnd b))) /\ (decide (Binding.kind b = 3) = false -> (decide (Binding.kind b = 4) = true -> ObsEq [] [] /\ AV.sv (lb (decide (Binding.number b <= 99999))) = AV.sv (lb
 (isBnd b))) /\ (decide (Binding.kind b = 4) = false -> ObsEq [] [] /\ AV.sv (lb false) = AV.sv (lb (isBnd b)))))))))) := by kernel_rfl
theorem Z9h (b : Binding)  : Zt8 b := by
  refine CallOK.ofRun wide (Zxu b) Tryz.call159 Tryz.func159 rfl rfl rfl ?_
  have e1 : formNames.length = 12 := rfl
  have e2 : primNames.length = 14 := rfl
  with_reducible repeat' (first | apply And.intro | exact flatI | exact flatS | exact rowLens | (intro; skip) | apply obsN | apply obsC | apply obA | apply obM | apply obB | apply svA | apply tupA | apply lcA | apply lcS | apply svC | apply liC | apply lbC | apply lsC | apply vIc | apply vBc | apply vSc | apply vLc | apply mapC | apply mIc | apply mOc | apply mSc | apply mLc | apply Z9r | apply Z7m | apply Zjr | apply Zc2)
  all_goals (try simp only [std] at *)
  all_goals (try (first | with_reducible apply Z9r | with_reducible apply Z7m | with_reducible apply Zjr | with_reducible apply Zc2 | (simp only [<- List.map_append]; first | with_reducible apply Z9r | with_reducible apply Z7m | with_reducible apply Zjr | with_reducible apply Zc2)))
  all_goals (try (first | with_reducible rfl | omega | assumption | exact dT ‹_› | exact dF ‹_› | ((first | refine rowGet ?_ | refine getC ?_ rfl); (first | omega | (simp only [std]; omega) | grind)) | exact look_mI | exact look_mO | exact look_mO1 | exact look_mS | exact look_mL | exact upd_mI | exact upd_mO | exact del_mO | exact upd_mS | exact take_mL | (refine upd_mL ?_; grind) | (show (_ : St) = _; rfl) | grind [isBnd, bndM, snocI, snocS, rowSnoc]))
def clB (t : ByteArray) (s : List Int) (x : Binding) : Bool := decide (x.text = t) && decide (x.scopes = s)
def clash (L : List Binding) (t : ByteArray) (s : List Int) : Bool := L.any (clB t s)
abbrev Zec (L : List Binding) (b : Binding) : Prop := CallOK Tryz.prog 151 [] [ll (L.map bindingC), bindingA b] [] (.sv (lb (clash L b.text b.scopes)))
def Zca (L : List Binding) (b : Binding) (x0 : SV) : St := St.mk (regsOf 26 [(3, AV.sv (SV.one (AC.ptr 0 0))), (7, AV.sv (ll (List.map bindingC L))), (8, AV.sv (li
 (↑(List.length (List.map bindingC L)) : Int))), (9, AV.sv x0)]) [Ob.box (vals (bindingF b))] 0 
def Z1y (L : List Binding) (b : Binding) (k : Nat) : St := Zca L b (li (k : Int)) 
abbrev Z87 (L : List Binding) (b : Binding) : Nat -> St -> Prop := Head (Z1y L b) (fun k => k <= List.length L /\ List.length L <= 9223372036854775807 /\ clash (List.take k
 L) (Binding.text b) (Binding.scopes b) = false) fun k => List.length L - k 
def Zed (L : List Binding) (b : Binding) : St := St.mk (regsOf 26 []) [] 0 
def Z8u (L : List Binding) (b : Binding) (x0 : SV) : St := St.mk (regsOf 26 [(4, AV.sv x0)]) [] 0 
def Zle (L : List Binding) (b : Binding) : List (Prop × AEx × St) := [(clash L (Binding.text b) (Binding.scopes b) = false, AEx.exit 0, Zed L b), (clash L
 (Binding.text b) (Binding.scopes b) = true, AEx.ret, Z8u L b (lb true))]

theorem Zqv {L : List Binding} {b : Binding} {k : Nat} {x0 : SV} (h0 : x0 = (li (k : Int))) : Zca L b x0 = Z1y L b k := by
  rw [h0]
  rfl
theorem Zo9 {L : List Binding} {b : Binding} {x0 y0 : SV} (h0 : x0 = y0) : Z8u L b x0 = Z8u L b y0 := by rw [h0]
theorem Zuf (L : List Binding) (b : Binding) (k : Nat) : aexec Tryz.prog (loopAt Tryz.f151 0) (Z1y L b k) [.br [.cells (bindingF (List.getD L k default)),
 .br [.call [Mode.rd, Mode.rd] [] (AV.sv (lb (decide (Binding.scopes (List.getD L k default) = Binding.scopes b)))), .br [.ghost (.sel [] [4]), .out 1]
 [.ghost (.sel [0] [3, 7, 8, 9]), .goto (List.length L - (k + 1)) (Z1y L b (k + 1))]] [.bool false, .ghost (.sel [0] [3, 7, 8, 9]), .goto
 (List.length L - (k + 1)) (Z1y L b (k + 1))]] [.ghost (.sel [] []), .out 0]] (loopK (Z87 L b) (Zle L b) (List.length L - k)) = ((decide ((↑k :
 Int) < (↑(List.length (List.map bindingC L)) : Int)) = true -> (0 <= (k : Int) /\ (List.map bindingC L)[Int.toNat (k : Int)]? = some (bindingF (List.getD L k default))) /\ (decide
 (Array.toList (ByteArray.data (Binding.text (List.getD L k default))) = Array.toList (ByteArray.data (Binding.text b))) = true -> Zhb (Binding.scopes (List.getD L k
 default)) (Binding.scopes b) /\ (decide (Binding.scopes (List.getD L k default) = Binding.scopes b) = true -> clash L (Binding.text b) (Binding.scopes b) = true /\ Z8u L b
 (lb true) = Z8u L b (lb true)) /\ (decide (Binding.scopes (List.getD L k default) = Binding.scopes b) = false -> rng .i64 ((k : Int) + 1) /\ List.length L - (k + 1)
 < List.length L - k /\ Zca L b (li ((k : Int) + 1)) = Z1y L b (k + 1) /\ Z87 L b (List.length L - (k + 1)) (Z1y L b (k + 1)))) /\ (decide
 (Array.toList (ByteArray.data (Binding.text (List.getD L k default))) = Array.toList (ByteArray.data (Binding.text b))) = false -> false = false /\ rng .i64 ((k : Int) + 1)
 /\ List.length L - (k + 1) < List.length L - k /\ Zca L b (li ((k : Int) + 1)) = Z1y L b (k + 1) /\ Z87 L b (List.length L - (k + 1)) (Z1y L b (k +
 1)))) /\ (decide ((k : Int) < (↑(List.length (List.map bindingC L)) : Int)) = false -> clash L (Binding.text b) (Binding.scopes b) = false /\ Zed L b = Zed L b))
 := by kernel_rfl
theorem Zzi (L : List Binding) (b : Binding)  : LoopSem Tryz.prog (loopAt Tryz.f151 0) (Z87 L b) (Zle L b) := by
  refine LoopSem.ofHead wide fun k h => ⟨_, _, Zuf L b k, ?_⟩
  with_reducible repeat' (first | apply And.intro | exact flatI | exact flatS | exact rowLens | (intro; skip) | apply obsN | apply obsC | apply obA | apply obM | apply obB | apply svA | apply tupA | apply lcA | apply lcS | apply svC | apply liC | apply lbC | apply lsC | apply vIc | apply vBc | apply vSc | apply vLc | apply mapC | apply hdI | apply mIc | apply mOc | apply mSc | apply mLc | apply Zqv | apply Zo9 | apply Z45)
  all_goals (try simp only [std] at *)
  all_goals (try (first | with_reducible apply Z45 | (simp only [<- List.map_append]; first | with_reducible apply Z45)))
  all_goals (try (first | with_reducible rfl | omega | assumption | exact dT ‹_› | exact dF ‹_› | ((first | refine rowGet ?_ | refine getC ?_ rfl); (first | omega | (simp only [std]; omega) | grind)) | exact look_mI | exact look_mO | exact look_mO1 | exact look_mS | exact look_mL | exact upd_mI | exact upd_mO | exact del_mO | exact upd_mS | exact take_mL | (refine upd_mL ?_; grind) | (show (_ : St) = _; rfl) | grind [take_get, clash, clB, getD_mem', bytes_ext, snocI, snocS, rowSnoc]))
theorem Zxv (L : List Binding) (b : Binding) : aexec Tryz.prog (Tryz.f151.body.getD .skip) (entry [] [ll (List.map bindingC L), bindingA b] 26)
 [.ghost (.sel [0] [3, 7, 8, 9]), .loop (List.length L - 0) (Z1y L b 0) (Z87 L b) [(clash L (Binding.text b) (Binding.scopes b) = false, AEx.exit 0,
 Zed L b, [.fin []]), (clash L (Binding.text b) (Binding.scopes b) = true, AEx.ret, Z8u L b (lb true), [.fin []])]] (finK Tryz.prog [ResultVar.tmp 4] []
 (AV.sv (lb (clash L (Binding.text b) (Binding.scopes b))))) = (List.length (List.map bindingC L) <= 9223372036854775807 -> Zca L b (li 0) = Z1y L b 0 /\ Z87 L
 b (List.length L - 0) (Z1y L b 0) /\ LoopSem Tryz.prog (loopAt Tryz.f151 0) (Z87 L b) (Zle L b) /\ (clash L (Binding.text b) (Binding.scopes b) = false ->
 ObsEq [] [] /\ AV.sv (lb false) = AV.sv (lb (clash L (Binding.text b) (Binding.scopes b)))) /\ (clash L (Binding.text b) (Binding.scopes b) = true -> ObsEq [] [] /\ AV.sv (lb true) =
 AV.sv (lb (clash L (Binding.text b) (Binding.scopes b)))) /\ True) := by kernel_rfl
theorem Z1h (L : List Binding) (b : Binding)  : Zec L b := by
  refine CallOK.ofRun wide (Zxv L b) Tryz.call151 Tryz.func151 rfl rfl rfl ?_
  with_reducible repeat' (first | apply And.intro | exact flatI | exact flatS | exact rowLens | (intro; skip) | apply obsN | apply obsC | apply obA | apply obM | apply obB | apply svA | apply tupA | apply lcA | apply lcS | apply svC | apply liC | apply lbC | apply lsC | apply vIc | apply vBc | apply vSc | apply vLc | apply mapC | apply hdI | apply mIc | apply mOc | apply mSc | apply mLc | apply Zqv | apply Zzi | apply Zo9 | apply Z45)
  all_goals (try simp only [std] at *)
  all_goals (try (first | with_reducible apply Z45 | (simp only [<- List.map_append]; first | with_reducible apply Z45)))
  all_goals (try (first | with_reducible rfl | omega | assumption | exact dT ‹_› | exact dF ‹_› | ((first | refine rowGet ?_ | refine getC ?_ rfl); (first | omega | (simp only [std]; omega) | grind)) | exact look_mI | exact look_mO | exact look_mO1 | exact look_mS | exact look_mL | exact upd_mI | exact upd_mO | exact del_mO | exact upd_mS | exact take_mL | (refine upd_mL ?_; grind) | (show (_ : St) = _; rfl) | grind [clash, snocI, snocS, rowSnoc]))
abbrev Zt9 (L : List Binding) (t : ByteArray) (s : List Int) : Prop := CallOK Tryz.prog 193 [] [ll (L.map bindingC), ls t, ll (s.map intC)] [] (.sv (lb (clash L t s)))
def Zcb (L : List Binding) (t : ByteArray) (s : List Int) (x0 : SV) : St := St.mk (regsOf 26 [(1, AV.sv (ls t)), (2, AV.sv (ll (List.map intC s))), (9, AV.sv (ll (List.map
 bindingC L))), (10, AV.sv (li (↑(List.length (List.map bindingC L)) : Int))), (11, AV.sv x0)]) [] 0 
def Z1z (L : List Binding) (t : ByteArray) (s : List Int) (k : Nat) : St := Zcb L t s (li (k : Int)) 
abbrev Z88 (L : List Binding) (t : ByteArray) (s : List Int) : Nat -> St -> Prop := Head (Z1z L t s) (fun k => k <= List.length L /\ List.length L <= 9223372036854775807 /\
 clash (List.take k L) t s = false) fun k => List.length L - k 
def Zee (L : List Binding) (t : ByteArray) (s : List Int) : St := St.mk (regsOf 26 []) [] 0 
def Z8v (L : List Binding) (t : ByteArray) (s : List Int) (x0 : SV) : St := St.mk (regsOf 26 [(6, AV.sv x0)]) [] 0 
def Zlf (L : List Binding) (t : ByteArray) (s : List Int) : List (Prop × AEx × St) := [(clash L t s = false, AEx.exit 0, Zee L t s), (clash L t s = true, AEx.ret,
 Z8v L t s (lb true))]

theorem Zqw {L : List Binding} {t : ByteArray} {s : List Int} {k : Nat} {x0 : SV} (h0 : x0 = (li (k : Int))) : Zcb L t s x0 = Z1z L t s k := by
  rw [h0]
  rfl
theorem Zoa {L : List Binding} {t : ByteArray} {s : List Int} {x0 y0 : SV} (h0 : x0 = y0) : Z8v L t s x0 = Z8v L t s y0 := by rw [h0]
theorem Zug (L : List Binding) (t : ByteArray) (s : List Int) (k : Nat) : aexec Tryz.prog (loopAt Tryz.f193 0) (Z1z L t s k) [.br [.cells (bindingF
 (List.getD L k default)), .br [.call [Mode.rd, Mode.rd] [] (AV.sv (lb (decide (Binding.scopes (List.getD L k default) = s)))), .br [.ghost (.sel [] [6]), .out
 1] [.ghost (.sel [] [1, 2, 9, 10, 11]), .goto (List.length L - (k + 1)) (Z1z L t s (k + 1))]] [.bool false, .ghost (.sel [] [1, 2, 9, 10, 11]),
 .goto (List.length L - (k + 1)) (Z1z L t s (k + 1))]] [.ghost (.sel [] []), .out 0]] (loopK (Z88 L t s) (Zlf L t s) (List.length L - k)) =
 ((decide ((k : Int) < (↑(List.length (List.map bindingC L)) : Int)) = true -> (0 <= (k : Int) /\ (List.map bindingC L)[Int.toNat (k : Int)]? = some (bindingF (List.getD L k
 default))) /\ (decide (Array.toList (ByteArray.data (Binding.text (List.getD L k default))) = Array.toList (ByteArray.data t)) = true -> Zcm (Binding.scopes (List.getD L k
 default)) s /\ (decide (Binding.scopes (List.getD L k default) = s) = true -> clash L t s = true /\ Z8v L t s (lb true) = Z8v L t s (lb true)) /\ (decide
 (Binding.scopes (List.getD L k default) = s) = false -> rng .i64 ((k : Int) + 1) /\ List.length L - (k + 1) < List.length L - k /\ Zcb L t s (li ((k : Int) + 1)) =
 Z1z L t s (k + 1) /\ Z88 L t s (List.length L - (k + 1)) (Z1z L t s (k + 1)))) /\ (decide (Array.toList (ByteArray.data (Binding.text (List.getD L k
 default))) = Array.toList (ByteArray.data t)) = false -> false = false /\ rng .i64 ((k : Int) + 1) /\ List.length L - (k + 1) < List.length L - k /\ Zcb L t s (li ((↑k
 : Int) + 1)) = Z1z L t s (k + 1) /\ Z88 L t s (List.length L - (k + 1)) (Z1z L t s (k + 1)))) /\ (decide ((k : Int) < (↑(List.length (List.map bindingC L))
 : Int)) = false -> clash L t s = false /\ Zee L t s = Zee L t s)) := by kernel_rfl
theorem Zzj (L : List Binding) (t : ByteArray) (s : List Int)  : LoopSem Tryz.prog (loopAt Tryz.f193 0) (Z88 L t s) (Zlf L t s) := by
  refine LoopSem.ofHead wide fun k h => ⟨_, _, Zug L t s k, ?_⟩
  with_reducible repeat' (first | apply And.intro | exact flatI | exact flatS | exact rowLens | (intro; skip) | apply obsN | apply obsC | apply obA | apply obM | apply obB | apply svA | apply tupA | apply lcA | apply lcS | apply svC | apply liC | apply lbC | apply lsC | apply vIc | apply vBc | apply vSc | apply vLc | apply mapC | apply hdI | apply mIc | apply mOc | apply mSc | apply mLc | apply Zqw | apply Zoa | apply Zb)
  all_goals (try simp only [std] at *)
  all_goals (try (first | with_reducible apply Zb | (simp only [<- List.map_append]; first | with_reducible apply Zb)))
  all_goals (try (first | with_reducible rfl | omega | assumption | exact dT ‹_› | exact dF ‹_› | ((first | refine rowGet ?_ | refine getC ?_ rfl); (first | omega | (simp only [std]; omega) | grind)) | exact look_mI | exact look_mO | exact look_mO1 | exact look_mS | exact look_mL | exact upd_mI | exact upd_mO | exact del_mO | exact upd_mS | exact take_mL | (refine upd_mL ?_; grind) | (show (_ : St) = _; rfl) | grind [take_get, clash, clB, getD_mem', bytes_ext, snocI, snocS, rowSnoc]))
theorem Zxw (L : List Binding) (t : ByteArray) (s : List Int) : aexec Tryz.prog (Tryz.f193.body.getD .skip) (entry [] [ll (List.map bindingC L), ls t, ll
 (List.map intC s)] 26) [.ghost (.sel [] [1, 2, 9, 10, 11]), .loop (List.length L - 0) (Z1z L t s 0) (Z88 L t s) [(clash L t s = false, AEx.exit 0,
 Zee L t s, [.fin []]), (clash L t s = true, AEx.ret, Z8v L t s (lb true), [.fin []])]] (finK Tryz.prog [ResultVar.tmp 6] [] (AV.sv (lb (clash L t s)))) =
 (List.length (List.map bindingC L) <= 9223372036854775807 -> Zcb L t s (li 0) = Z1z L t s 0 /\ Z88 L t s (List.length L - 0) (Z1z L t s 0) /\ LoopSem
 Tryz.prog (loopAt Tryz.f193 0) (Z88 L t s) (Zlf L t s) /\ (clash L t s = false -> ObsEq [] [] /\ AV.sv (lb false) = AV.sv (lb (clash L t s))) /\ (clash L t s = true ->
 ObsEq [] [] /\ AV.sv (lb true) = AV.sv (lb (clash L t s))) /\ True) := by kernel_rfl
theorem Zrk (L : List Binding) (t : ByteArray) (s : List Int)  : Zt9 L t s := by
  refine CallOK.ofRun wide (Zxw L t s) Tryz.call193 Tryz.func193 rfl rfl rfl ?_
  with_reducible repeat' (first | apply And.intro | exact flatI | exact flatS | exact rowLens | (intro; skip) | apply obsN | apply obsC | apply obA | apply obM | apply obB | apply svA | apply tupA | apply lcA | apply lcS | apply svC | apply liC | apply lbC | apply lsC | apply vIc | apply vBc | apply vSc | apply vLc | apply mapC | apply hdI | apply mIc | apply mOc | apply mSc | apply mLc | apply Zqw | apply Zzj | apply Zoa | apply Zb)
  all_goals (try simp only [std] at *)
  all_goals (try (first | with_reducible apply Zb | (simp only [<- List.map_append]; first | with_reducible apply Zb)))
  all_goals (try (first | with_reducible rfl | omega | assumption | exact dT ‹_› | exact dF ‹_› | ((first | refine rowGet ?_ | refine getC ?_ rfl); (first | omega | (simp only [std]; omega) | grind)) | exact look_mI | exact look_mO | exact look_mO1 | exact look_mS | exact look_mL | exact upd_mI | exact upd_mO | exact del_mO | exact upd_mS | exact take_mL | (refine upd_mL ?_; grind) | (show (_ : St) = _; rfl) | grind [clash, snocI, snocS, rowSnoc]))
def areTo (L : List Binding) : Nat -> Bool
  | 0 => true
  | k + 1 => areTo L k && (isBnd (L.getD k default) && !clash (L.take k) (L.getD k default).text (L.getD k default).scopes)
theorem areTo_le (L : List Binding) : ∀ (m k : Nat), k <= m -> areTo L m = true -> areTo L k = true
  | 0, k, h, _ => by
    obtain rfl : k = 0 := by omega
    rfl
  | m + 1, k, h, ht => by
    by_cases e : k = m + 1
    . rw [e]; exact ht
    . refine areTo_le L m k (by omega) ?_
      simp only [areTo, Bool.and_eq_true] at ht; exact ht.1
def areB (L : List Binding) : Bool := areTo L L.length && decide ((L.length : Int) <= 1000)
abbrev Zxx (L : List Binding) : Prop := CallOK Tryz.prog 82 [] [ll (L.map bindingC)] [] (.sv (lb (areB L)))
def Zkn (L : List Binding) (x0 : SV) : St := St.mk (regsOf 26 [(0, AV.sv (ll (List.map bindingC L))), (5, AV.sv (ll (List.map bindingC L))), (6, AV.sv (li (↑(List.length
 (List.map bindingC L)) : Int))), (7, AV.sv x0)]) [] 0 
def Z7y (L : List Binding) (k : Nat) : St := Zkn L (li (k : Int)) 
abbrev Zdh (L : List Binding) : Nat -> St -> Prop := Head (Z7y L) (fun k => k <= List.length L /\ List.length L <= 9223372036854775807 /\ areTo L k = true) fun k => List.length
 L - k 
def Zij (L : List Binding) : St := St.mk (regsOf 26 [(0, AV.sv (ll (List.map bindingC L)))]) [] 0 
def Z7z (L : List Binding) (x0 : SV) : St := St.mk (regsOf 26 [(2, AV.sv x0)]) [] 0 
def Zpo (L : List Binding) : List (Prop × AEx × St) := [(areTo L (List.length L) = true, AEx.exit 0, Zij L), (areTo L (List.length L) = false, AEx.ret, Z7z L
 (lb false))]

theorem Zvo {L : List Binding} {k : Nat} {x0 : SV} (h0 : x0 = (li (k : Int))) : Zkn L x0 = Z7y L k := by
  rw [h0]
  rfl
theorem Zqx {L : List Binding} {x0 y0 : SV} (h0 : x0 = y0) : Z7z L x0 = Z7z L y0 := by rw [h0]
abbrev Zlg (L : List Binding) (k : Nat) := (AV.sv (lb (clash (List.take (Int.toNat (↑k : Int) - 0) (List.drop 0 L)) (Binding.text (List.getD L k default)) (Binding.scopes
 (List.getD L k default)))))
theorem Zxy (L : List Binding) (k : Nat) : aexec Tryz.prog (loopAt Tryz.f82 0) (Z7y L k) [.br [.cells (bindingF (List.getD L k default)), .draw [], .call
 [Mode.rd] [] (AV.sv (lb (isBnd (List.getD L k default)))), .br [.bool true, .ghost (.sel [] [2]), .out 1] [.call [Mode.rd, Mode.rd] [] (Zlg L k),
 .br [.ghost (.sel [] [2]), .out 1] [.ghost (.sel [] [0, 5, 6, 7]), .goto (List.length L - (k + 1)) (Z7y L (k + 1))]]] [.ghost (.sel [] [0]),
 .out 0]] (loopK (Zdh L) (Zpo L) (List.length L - k)) = ((decide ((k : Int) < (↑(List.length (List.map bindingC L)) : Int)) = true -> (0 <= (k : Int) /\ (List.map
 bindingC L)[Int.toNat (k : Int)]? = some (bindingF (List.getD L k default))) /\ Zt7 (List.getD L k default) /\ ((!isBnd (List.getD L k default)) = true -> true = true /\ areTo
 L (List.length L) = false /\ Z7z L (lb false) = Z7z L (lb false)) /\ ((!isBnd (List.getD L k default)) = false -> 0 <= (k : Int) /\ (0 <= Int.toNat (k : Int) /\ Int.toNat
 (k : Int) <= List.length (List.map bindingC L) /\ ∀ (e : List Cell), e ∈ List.map bindingC L -> List.length e = 4) /\ CallOK Tryz.prog 151 [] [ll (List.take (Int.toNat (k : Int) -
 0) (List.drop 0 (List.map bindingC L))), SV.agg (vals (bindingF (List.getD L k default)))] [] (Zlg L k) /\ (clash (List.take (Int.toNat (k : Int) - 0) (List.drop 0 L))
 (Binding.text (List.getD L k default)) (Binding.scopes (List.getD L k default)) = true -> areTo L (List.length L) = false /\ Z7z L (lb false) = Z7z L (lb false)) /\
 (clash (List.take (Int.toNat (k : Int) - 0) (List.drop 0 L)) (Binding.text (List.getD L k default)) (Binding.scopes (List.getD L k default)) = false -> rng .i64 ((k : Int)
 + 1) /\ List.length L - (k + 1) < List.length L - k /\ Zkn L (li ((k : Int) + 1)) = Z7y L (k + 1) /\ Zdh L (List.length L - (k + 1)) (Z7y L (k + 1))))) /\
 (decide ((k : Int) < (↑(List.length (List.map bindingC L)) : Int)) = false -> areTo L (List.length L) = true /\ Zij L = Zij L)) := by kernel_rfl
theorem Z113 (L : List Binding)  : LoopSem Tryz.prog (loopAt Tryz.f82 0) (Zdh L) (Zpo L) := by
  refine LoopSem.ofHead wide fun k h => ⟨_, _, Zxy L k, ?_⟩
  try delta Zlg
  have g1 := areTo_le L L.length (k + 1)
  have g2 : areTo L (k + 1) = (areTo L k && (isBnd (L.getD k default) && !clash (L.take k) (L.getD k default).text (L.getD k default).scopes)) := rfl
  with_reducible repeat' (first | apply And.intro | exact flatI | exact flatS | exact rowLens | (intro; skip) | apply obsN | apply obsC | apply obA | apply obM | apply obB | apply svA | apply tupA | apply lcA | apply lcS | apply svC | apply liC | apply lbC | apply lsC | apply vIc | apply vBc | apply vSc | apply vLc | apply mapC | apply hdI | apply mIc | apply mOc | apply mSc | apply mLc | apply Zvo | apply Zqx | apply Zfh | apply Z1h)
  all_goals (try simp only [std] at *)
  all_goals (try (first | with_reducible apply Zfh | with_reducible apply Z1h | (simp only [<- List.map_append]; first | with_reducible apply Zfh | with_reducible apply Z1h)))
  all_goals (try (first | with_reducible rfl | omega | assumption | exact dT ‹_› | exact dF ‹_› | ((first | refine rowGet ?_ | refine getC ?_ rfl); (first | omega | (simp only [std]; omega) | grind)) | exact look_mI | exact look_mO | exact look_mO1 | exact look_mS | exact look_mL | exact upd_mI | exact upd_mO | exact del_mO | exact upd_mS | exact take_mL | (refine upd_mL ?_; grind) | (show (_ : St) = _; rfl) | grind [getD_mem', snocI, snocS, rowSnoc]))
theorem Z10f (L : List Binding) : aexec Tryz.prog (Tryz.f82.body.getD .skip) (entry [] [ll (List.map bindingC L)] 26) [.ghost (.sel [] [0, 5, 6,
 7]), .loop (List.length L - 0) (Z7y L 0) (Zdh L) [(areTo L (List.length L) = true, AEx.exit 0, Zij L, [.fin []]), (areTo L (List.length L) = false,
 AEx.ret, Z7z L (lb false), [.fin []])]] (finK Tryz.prog [ResultVar.tmp 2] [] (AV.sv (lb (areB L)))) = (List.length (List.map bindingC L) <= 9223372036854775807 ->
 Zkn L (li 0) = Z7y L 0 /\ Zdh L (List.length L - 0) (Z7y L 0) /\ LoopSem Tryz.prog (loopAt Tryz.f82 0) (Zdh L) (Zpo L) /\ (areTo L (List.length L)
 = true -> List.length (List.map bindingC L) <= 9223372036854775807 -> ObsEq [] [] /\ AV.sv (lb (decide ((↑(List.length (List.map bindingC L)) : Int) <= 1000))) = AV.sv (lb (areB L))) /\
 (areTo L (List.length L) = false -> ObsEq [] [] /\ AV.sv (lb false) = AV.sv (lb (areB L))) /\ True) := by kernel_rfl
theorem Zef (L : List Binding)  : Zxx L := by
  refine CallOK.ofRun wide (Z10f L) Tryz.call82 Tryz.func82 rfl rfl rfl ?_
  with_reducible repeat' (first | apply And.intro | exact flatI | exact flatS | exact rowLens | (intro; skip) | apply obsN | apply obsC | apply obA | apply obM | apply obB | apply svA | apply tupA | apply lcA | apply lcS | apply svC | apply liC | apply lbC | apply lsC | apply vIc | apply vBc | apply vSc | apply vLc | apply mapC | apply hdI | apply mIc | apply mOc | apply mSc | apply mLc | apply Zvo | apply Z113 | apply Zqx | apply Zfh | apply Z1h)
  all_goals (try simp only [std] at *)
  all_goals (try (first | with_reducible apply Zfh | with_reducible apply Z1h | (simp only [<- List.map_append]; first | with_reducible apply Zfh | with_reducible apply Z1h)))
  all_goals (try (first | with_reducible rfl | omega | assumption | exact dT ‹_› | exact dF ‹_› | ((first | refine rowGet ?_ | refine getC ?_ rfl); (first | omega | (simp only [std]; omega) | grind)) | exact look_mI | exact look_mO | exact look_mO1 | exact look_mS | exact look_mL | exact upd_mI | exact upd_mO | exact del_mO | exact upd_mS | exact take_mL | (refine upd_mL ?_; grind) | (show (_ : St) = _; rfl) | grind [areB, areTo, snocI, snocS, rowSnoc]))
def plc (L : List Binding) : Nat -> ByteArray -> List Int
  | 0, _ => []
  | k + 1, s => if s = (L.getD k default).text then plc L k s ++ [(k : Int)] else plc L k s
theorem plc_upd {L : List Binding} {k : Nat} : upd1 (plc L k) (L.getD k default).text (plc L k (L.getD k default).text ++ [(k : Int)]) = plc L (k + 1) := by
  funext s; simp only [upd1, plc]; split
  . rename_i h; rw [h]
  . rfl
theorem plc_zero {L : List Binding} : zL = plc L 0 := rfl
theorem plc_len (L : List Binding) (s : ByteArray) : ∀ k, (plc L k s).length <= k
  | 0 => Nat.le_refl _
  | k + 1 => by
    have := plc_len L s k
    simp only [plc]; split
    . simp; omega
    . omega
theorem plc_mem (L : List Binding) (s : ByteArray) : ∀ k (i : Int), i ∈ plc L k s ↔ (0 <= i /\ i < k /\ (L.getD i.toNat default).text = s)
  | 0, i => by simp [plc]; omega
  | k + 1, i => by
    have ih := plc_mem L s k i
    simp only [plc]; split
    . rename_i h
      rw [List.mem_append, ih, List.mem_singleton]
      constructor
      . rintro (⟨a, b, c⟩ | rfl)
        . exact ⟨a, by omega, c⟩
        . exact ⟨by omega, by omega, by rw [Int.toNat_natCast]; exact h.symm⟩
      . rintro ⟨a, b, c⟩
        by_cases e : i = k
        . exact .inr e
        . exact .inl ⟨a, by omega, c⟩
    . rename_i h
      rw [ih]
      constructor
      . rintro ⟨a, b, c⟩; exact ⟨a, by omega, c⟩
      . rintro ⟨a, b, c⟩
        refine ⟨a, ?_, c⟩
        by_cases e : i = k
        . subst e; rw [Int.toNat_natCast] at c; exact absurd c.symm h
        . omega
def plOK (L : List Binding) (s : List Int) (P : List Int) : Bool := P.all fun i => !decide ((L.getD i.toNat default).scopes = s)
theorem plOK_clash {L : List Binding} {k : Nat} {t : ByteArray} {s : List Int} (hk : k <= L.length) : plOK L s (plc L k t) = !clash (L.take k) t s := by
  rw [Bool.eq_iff_iff]
  simp only [plOK, clash, clB, List.all_eq_true, Bool.not_eq_true', decide_eq_false_iff_not, List.any_eq_false, Bool.and_eq_true, decide_eq_true_eq, not_and]
  constructor
  . intro h x hx e
    obtain ⟨j, hj, rfl⟩ := List.getElem_of_mem hx
    rw [List.length_take] at hj
    have e2 : (L.take k)[j]'(by rw [List.length_take]; exact hj) = L.getD j default := by simp [show j < L.length by omega]
    rw [e2] at e ⊢
    have := h (j : Int) ((plc_mem L t k j).2 ⟨by omega, by omega, by rw [Int.toNat_natCast]; exact e⟩)
    rwa [Int.toNat_natCast] at this
  . intro h i hi
    obtain ⟨a, b, c⟩ := (plc_mem L t k i).1 hi
    refine h _ ?_ c
    have e : L.getD i.toNat default = (L.take k)[i.toNat]'(by rw [List.length_take]; omega) := by simp [show i.toNat < L.length by omega]
    rw [e]; exact List.getElem_mem _
theorem plOK_at {L : List Binding} {s : List Int} {P : List Int} {j : Nat} (h : j < P.length) (e : (L.getD (P.getD j default).toNat default).scopes = s) : plOK L s P = false := by
  unfold plOK; rw [List.all_eq_false]; exact ⟨_, getD_mem' h, by rw [decide_eq_true e]; decide⟩
theorem plOK_step {L : List Binding} {s : List Int} {P : List Int} {j : Nat} (h : j < P.length) (h0 : plOK L s (P.take j) = true) (e : (L.getD (P.getD j default).toNat default).scopes ≠ s) : plOK L s (P.take (j + 1)) = true := by
  unfold plOK at *; rw [take_get h, List.all_append, h0]; simpa using e
abbrev Zxz (L : List Binding) : Prop := CallOK Tryz.prog 87 [] [ll (L.map bindingC)] [] (.sv (lb (areB L)))
def Zko (L : List Binding) (k : Nat) (x0 : SV) : St := St.mk (regsOf 51 [(0, AV.sv (ll (List.map bindingC L))), (3, AV.sv (SV.one (AC.mref 0))), (4, AV.sv (li (k : Int))),
 (5, AV.sv (SV.one (AC.ptr 1 0))), (12, AV.sv (ll (List.map bindingC L))), (13, AV.sv (li (↑(List.length (List.map bindingC L)) : Int))), (14, AV.sv (li (k : Int))), (25, AV.sv
 (SV.one (AC.bor 0 (Cell.list (List.map intC (plc L k (Binding.text (List.getD L k default)))))))), (26, AV.sv (li (↑(List.length (List.map intC (plc L k (Binding.text (List.getD L
 k default))))) : Int))), (27, AV.sv x0)]) [Ob.map false kL (mL (plc L k)), Ob.box (vals (bindingF (List.getD L k default)))] 0 
def Z80 (L : List Binding) (k : Nat) (k1 : Nat) : St := Zko L k (li (k1 : Int)) 
abbrev Zdi (L : List Binding) (k : Nat) : Nat -> St -> Prop := Head (Z80 L k) (fun k1 => k1 <= List.length (plc L k (Binding.text (List.getD L k default))) /\ List.length (plc
 L k (Binding.text (List.getD L k default))) <= 9223372036854775807 /\ k < List.length L /\ areTo L k = true /\ isBnd (List.getD L k default) = true /\ plOK L (Binding.scopes (List.getD
 L k default)) (List.take k1 (plc L k (Binding.text (List.getD L k default)))) = true) fun k1 => List.length (plc L k (Binding.text (List.getD L k default))) - k1 
def Zik (L : List Binding) (k : Nat) : St := St.mk (regsOf 51 [(0, AV.sv (ll (List.map bindingC L))), (3, AV.sv (SV.one (AC.mref 0))), (4, AV.sv (li (k : Int))), (5, AV.sv
 (SV.one (AC.ptr 1 0))), (12, AV.sv (ll (List.map bindingC L))), (13, AV.sv (li (↑(List.length (List.map bindingC L)) : Int))), (14, AV.sv (li (k : Int)))]) [Ob.map false kL (mL
 (plc L k)), Ob.box (vals (bindingF (List.getD L k default)))] 0 
def Zeg (L : List Binding) (k : Nat) (x0 : SV) : St := St.mk (regsOf 51 [(2, AV.sv x0)]) [] 0 
def Zpp (L : List Binding) (k : Nat) : List (Prop × AEx × St) := [(areTo L (k + 1) = true, AEx.exit 2, Zik L k), (areTo L (List.length L) = false, AEx.ret, Zeg
 L k (lb false))]
def Zkp (L : List Binding) (x0 : SV) (x1 : Ob) : St := St.mk (regsOf 51 [(0, AV.sv (ll (List.map bindingC L))), (3, AV.sv (SV.one (AC.mref 0))), (12, AV.sv (ll (List.map
 bindingC L))), (13, AV.sv (li (↑(List.length (List.map bindingC L)) : Int))), (14, AV.sv x0)]) [x1] 0 
def Z81 (L : List Binding) (k : Nat) : St := Zkp L (li (k : Int)) (Ob.map false kL (mL (plc L k))) 
abbrev Zdj (L : List Binding) : Nat -> St -> Prop := Head (Z81 L) (fun k => k <= List.length L /\ List.length L <= 9223372036854775807 /\ List.length L <= 1000 /\ areTo L k =
 true) fun k => List.length L - k 
def Zil (L : List Binding) : St := St.mk (regsOf 51 []) [] 0 
def Z5y (L : List Binding) (x0 : SV) : St := St.mk (regsOf 51 [(2, AV.sv x0)]) [] 0 
def Zpq (L : List Binding) : List (Prop × AEx × St) := [(areTo L (List.length L) = true, AEx.exit 0, Zil L), (areTo L (List.length L) = false, AEx.ret, Z5y L
 (lb false))]

theorem Zpr {L : List Binding} {k : Nat} {k1 : Nat} {x0 : SV} (h0 : x0 = (li (k1 : Int))) : Zko L k x0 = Z80 L k k1 := by
  rw [h0]
  rfl
theorem Zlh {L : List Binding} {k : Nat} {x0 y0 : SV} (h0 : x0 = y0) : Zeg L k x0 = Zeg L k y0 := by rw [h0]
abbrev Zw (L : List Binding) (k : Nat) := (plc L k (Binding.text (List.getD L k default)))
abbrev Zcc (L : List Binding) (k : Nat) (k1 : Nat) := (List.getD L (Int.toNat (List.getD (Zw L k) k1 0)) default)
abbrev Zgb (L : List Binding) (k : Nat) (k1 : Nat) := (Binding.scopes (Zcc L k k1) = Binding.scopes (List.getD L k default))
theorem Zy0 (L : List Binding) (k : Nat) (k1 : Nat) : aexec Tryz.prog (loopAt Tryz.f87 1) (Z80 L k k1) [.br [.cells (intC (List.getD (Zw L k) k1
 default)), .draw [], .cells (bindingF (Zcc L k k1)), .call [Mode.rd, Mode.rd] [] (AV.sv (lb (decide (Zgb L k k1)))), .br [.ghost (.sel [] [2]),
 .out 1] [.ghost (.sel [0, 1] [0, 3, 4, 5, 12, 13, 14, 25, 26, 27]), .goto (List.length (Zw L k) - (k1 + 1)) (Z80 L k (k1 + 1))]] [.ghost (.sel
 [0, 1] [0, 3, 4, 5, 12, 13, 14]), .out 0]] (loopK (Zdi L k) (Zpp L k) (List.length (Zw L k) - k1)) = ((decide ((k1 : Int) < (↑(List.length (List.map intC
 (Zw L k))) : Int)) = true -> (0 <= (k1 : Int) /\ (List.map intC (Zw L k))[Int.toNat (k1 : Int)]? = some [cI (List.getD (Zw L k) k1 0)]) /\ (0 <= List.getD
 (Zw L k) k1 0 /\ (List.map bindingC L)[Int.toNat (List.getD (Zw L k) k1 0)]? = some (bindingF (Zcc L k k1))) /\ Zcm (Binding.scopes (Zcc
 L k k1)) (Binding.scopes (List.getD L k default)) /\ (decide (Zgb L k k1) = true -> areTo L (List.length L) = false /\ Z5y L (lb false) = Zeg L k (lb false)) /\
 (decide (Zgb L k k1) = false -> rng .i64 ((k1 : Int) + 1) /\ List.length (Zw L k) - (k1 + 1) < List.length (Zw L k) - k1 /\ Zko L k (li ((↑k1
 : Int) + 1)) = Z80 L k (k1 + 1) /\ Zdi L k (List.length (Zw L k) - (k1 + 1)) (Z80 L k (k1 + 1)))) /\ (decide ((k1 : Int) < (↑(List.length (List.map intC
 (Zw L k))) : Int)) = false -> areTo L (k + 1) = true /\ Zik L k = Zik L k)) := by kernel_rfl

theorem Zps {L : List Binding} {k : Nat} {x0 : SV} {x1 : Ob} (h0 : x0 = (li (k : Int))) (h1 : x1 = (Ob.map false kL (mL (plc L k)))) : Zkp L x0 x1 = Z81 L k :=
 by
  rw [h0, h1]
  rfl
theorem Zli {L : List Binding} {x0 y0 : SV} (h0 : x0 = y0) : Z5y L x0 = Z5y L y0 := by rw [h0]
abbrev a1__iAreLa (L : List Binding) (k : Nat) := (plc L k (Binding.text (List.getD L k default)))
abbrev a2__iAreLa (L : List Binding) (k : Nat) := (mL (upd1 (plc L k) (Binding.text (List.getD L k default)) (plc L k (Binding.text (List.getD L k default)) ++ [(k : Int)])))
theorem Zy1 (L : List Binding) (k : Nat) : aexec Tryz.prog (loopAt Tryz.f87 0) (Z81 L k) [.br [.cells (bindingF (List.getD L k default)), .call [Mode.rd] []
 (AV.sv (lb (isBnd (List.getD L k default)))), .br [.ghost (.sel [] [2]), .out 1] [.cells [Cell.list (List.map intC (a1__iAreLa L k))], .ghost (.sel [0, 1]
 [0, 3, 4, 5, 12, 13, 14, 25, 26, 27]), .loop (List.length (a1__iAreLa L k) - 0) (Z80 L k 0) (Zdi L k) [(areTo L (k + 1) = true, AEx.exit 2, Zik L k,
 [.draw [(6, [0]), (9, [2, 3]), (10, [4, 0])], .taken (List.map intC (a1__iAreLa L k)) 1 (mLt (plc L k) (Binding.text (List.getD L k default))), .upd (a2__iAreLa L k),
 .ghost (.sel [0] [0, 3, 12, 13, 14]), .goto (List.length L - (k + 1)) (Z81 L (k + 1))]), (areTo L (List.length L) = false, AEx.ret, Zeg L k (lb false),
 [.ghost (.sel [] [2]), .out 1])]]] [.ghost (.sel [] []), .out 0]] (loopK (Zdj L) (Zpq L) (List.length L - k)) = ((decide ((k : Int) <
 (↑(List.length (List.map bindingC L)) : Int)) = true -> (0 <= (k : Int) /\ (List.map bindingC L)[Int.toNat (k : Int)]? = some (bindingF (List.getD L k default))) /\ Zt8
 (List.getD L k default) /\ ((!isBnd (List.getD L k default)) = true -> areTo L (List.length L) = false /\ Z5y L (lb false) = Z5y L (lb false)) /\ ((!isBnd (List.getD L k
 default)) = false -> LookAt (Value.slice none 0 0) (mL (plc L k)) (Value.string (Binding.text (List.getD L k default))) (Cell.list (List.map intC (a1__iAreLa L k))) /\ (List.length
 (List.map intC (a1__iAreLa L k)) <= 9223372036854775807 -> Zko L k (li 0) = Z80 L k 0 /\ Zdi L k (List.length (a1__iAreLa L k) - 0) (Z80 L k 0) /\ LoopSem
 Tryz.prog (loopAt Tryz.f87 1) (Zdi L k) (Zpp L k) /\ (areTo L (k + 1) = true -> LookAt (Value.slice none 0 0) (mL (plc L k)) (Value.string (Binding.text (List.getD L k
 default))) (Cell.list (List.map intC (a1__iAreLa L k))) /\ UpdF (MK.d kL) (mL (plc L k)) (mLt (plc L k) (Binding.text (List.getD L k default))) (Value.string (Binding.text
 (List.getD L k default))) (some Cell.any) /\ some (Value.slice none 0 0) = some (Value.slice none 0 0) /\ (∀ (x : List Cell), x ∈ List.map intC (a1__iAreLa L k) -> List.length x = 1)
 /\ (List.length (List.map intC (a1__iAreLa L k)) + 1) * 8 <= 140737488355328 /\ false = false /\ UpdF (MK.d kL) (mLt (plc L k) (Binding.text (List.getD L k default))) (a2__iAreLa L k)
 (Value.string (Binding.text (List.getD L k default))) (some (Cell.list (List.map intC (a1__iAreLa L k) ++ [[cI (k : Int)]]))) /\ rng .i64 ((k : Int) + 1) /\ List.length L -
 (k + 1) < List.length L - k /\ Zkp L (li ((k : Int) + 1)) (Ob.map false kL (a2__iAreLa L k)) = Z81 L (k + 1) /\ Zdj L (List.length L - (k + 1)) (Z81 L (k +
 1))) /\ (areTo L (List.length L) = false -> areTo L (List.length L) = false /\ Z5y L (lb false) = Z5y L (lb false)) /\ True))) /\ (decide ((k : Int) < (↑(List.length
 (List.map bindingC L)) : Int)) = false -> areTo L (List.length L) = true /\ Zil L = Zil L)) := by kernel_rfl
theorem Zvp (L : List Binding) (k : Nat)  : LoopSem Tryz.prog (loopAt Tryz.f87 1) (Zdi L k) (Zpp L k) := by
  refine LoopSem.ofHead wide fun k1 h => ⟨_, _, Zy0 L k k1, ?_⟩
  try delta Zw Zcc Zgb
  have g1 := areTo_le L L.length (k + 1)
  have g2 : areTo L (k + 1) = (areTo L k && (isBnd (L.getD k default) && !clash (L.take k) (L.getD k default).text (L.getD k default).scopes)) := rfl
  have g3 := @plOK_clash L k (L.getD k default).text (L.getD k default).scopes
  have g4 := @plOK_at L (L.getD k default).scopes (plc L k (L.getD k default).text) k1
  have g5 := @plOK_step L (L.getD k default).scopes (plc L k (L.getD k default).text) k1
  have g6 := plc_mem L (L.getD k default).text k ((plc L k (L.getD k default).text).getD k1 default)
  have g7 : ∀ j, (plc L k (L.getD k default).text).length <= j -> (plc L k (L.getD k default).text).take j = plc L k (L.getD k default).text := fun j h => List.take_of_length_le h
  with_reducible repeat' (first | apply And.intro | exact flatI | exact flatS | exact rowLens | (intro; skip) | apply obsN | apply obsC | apply obA | apply obM | apply obB | apply svA | apply tupA | apply lcA | apply lcS | apply svC | apply liC | apply lbC | apply lsC | apply vIc | apply vBc | apply vSc | apply vLc | apply mapC | apply hdI | apply mIc | apply mOc | apply mSc | apply mLc | apply Zps | apply Zpr | apply Zlh | apply Zli | apply Z9h | apply Zb)
  all_goals (try simp only [std] at *)
  all_goals (try (first | with_reducible apply Z9h | with_reducible apply Zb | (simp only [<- List.map_append]; first | with_reducible apply Z9h | with_reducible apply Zb)))
  all_goals (try (first | with_reducible rfl | omega | assumption | exact dT ‹_› | exact dF ‹_› | ((first | refine rowGet ?_ | refine getC ?_ rfl); (first | omega | (simp only [std]; omega) | grind)) | exact look_mI | exact look_mO | exact look_mO1 | exact look_mS | exact look_mL | exact upd_mI | exact upd_mO | exact del_mO | exact upd_mS | exact take_mL | (refine upd_mL ?_; grind) | (show (_ : St) = _; rfl) | grind [getD_mem', snocI, snocS, rowSnoc]))
theorem Z114 (L : List Binding)  : LoopSem Tryz.prog (loopAt Tryz.f87 0) (Zdj L) (Zpq L) := by
  refine LoopSem.ofHead wide fun k h => ⟨_, _, Zy1 L k, ?_⟩
  try delta a1__iAreLa a2__iAreLa
  have g1 := areTo_le L L.length (k + 1)
  have g2 : areTo L (k + 1) = (areTo L k && (isBnd (L.getD k default) && !clash (L.take k) (L.getD k default).text (L.getD k default).scopes)) := rfl
  have g3 := plc_len L (L.getD k default).text k
  have g4 := @plc_upd L k
  have g5 : plOK L (L.getD k default).scopes ((plc L k (L.getD k default).text).take 0) = true := rfl
  with_reducible repeat' (first | apply And.intro | exact flatI | exact flatS | exact rowLens | (intro; skip) | apply obsN | apply obsC | apply obA | apply obM | apply obB | apply svA | apply tupA | apply lcA | apply lcS | apply svC | apply liC | apply lbC | apply lsC | apply vIc | apply vBc | apply vSc | apply vLc | apply mapC | apply hdI | apply mIc | apply mOc | apply mSc | apply mLc | apply Zps | apply Zpr | apply Zvp | apply Zlh | apply Zli | apply Z9h | apply Zb)
  all_goals (try simp only [std] at *)
  all_goals (try (first | with_reducible apply Z9h | with_reducible apply Zb | (simp only [<- List.map_append]; first | with_reducible apply Z9h | with_reducible apply Zb)))
  all_goals (try (first | with_reducible rfl | omega | assumption | exact dT ‹_› | exact dF ‹_› | ((first | refine rowGet ?_ | refine getC ?_ rfl); (first | omega | (simp only [std]; omega) | grind)) | exact look_mI | exact look_mO | exact look_mO1 | exact look_mS | exact look_mL | exact upd_mI | exact upd_mO | exact del_mO | exact upd_mS | exact take_mL | (refine upd_mL ?_; grind) | (show (_ : St) = _; rfl) | grind [getD_mem', snocI, snocS, rowSnoc]))
  all_goals (try (exact upd_mL (by simp [intC])))
theorem Z10g (L : List Binding) : aexec Tryz.prog (Tryz.f87.body.getD .skip) (entry [] [ll (List.map bindingC L)] 51) [.br [.fin []] [.mkmap kL,
 .ghost (.sel [0] [0, 3, 12, 13, 14]), .loop (List.length L - 0) (Z81 L 0) (Zdj L) [(areTo L (List.length L) = true, AEx.exit 0, Zil L, [.fin []]),
 (areTo L (List.length L) = false, AEx.ret, Z5y L (lb false), [.fin []])]]] (finK Tryz.prog [ResultVar.tmp 2] [] (AV.sv (lb (areB L)))) = (List.length (List.map bindingC
 L) <= 9223372036854775807 -> (decide (1000 < (↑(List.length (List.map bindingC L)) : Int)) = true -> ObsEq [] [] /\ AV.sv (lb false) = AV.sv (lb (areB L))) /\ (decide (1000 <
 (↑(List.length (List.map bindingC L)) : Int)) = false -> List.length (List.map bindingC L) <= 9223372036854775807 -> Zkp L (li 0) (Ob.map false kL (mL zL)) = Z81 L 0 /\
 Zdj L (List.length L - 0) (Z81 L 0) /\ LoopSem Tryz.prog (loopAt Tryz.f87 0) (Zdj L) (Zpq L) /\ (areTo L (List.length L) = true -> ObsEq [] [] /\ AV.sv (lb
 true) = AV.sv (lb (areB L))) /\ (areTo L (List.length L) = false -> ObsEq [] [] /\ AV.sv (lb false) = AV.sv (lb (areB L))) /\ True)) := by kernel_rfl
theorem Zeh (L : List Binding)  : Zxz L := by
  refine CallOK.ofRun wide (Z10g L) Tryz.call87 Tryz.func87 rfl rfl rfl ?_
  with_reducible repeat' (first | apply And.intro | exact flatI | exact flatS | exact rowLens | (intro; skip) | apply obsN | apply obsC | apply obA | apply obM | apply obB | apply svA | apply tupA | apply lcA | apply lcS | apply svC | apply liC | apply lbC | apply lsC | apply vIc | apply vBc | apply vSc | apply vLc | apply mapC | apply hdI | apply mIc | apply mOc | apply mSc | apply mLc | apply Zps | apply Z114 | apply Zpr | apply Zvp | apply Zlh | apply Zli | apply Z9h | apply Zb)
  all_goals (try simp only [std] at *)
  all_goals (try (first | with_reducible apply Z9h | with_reducible apply Zb | (simp only [<- List.map_append]; first | with_reducible apply Z9h | with_reducible apply Zb)))
  all_goals (try (first | with_reducible rfl | omega | assumption | exact dT ‹_› | exact dF ‹_› | ((first | refine rowGet ?_ | refine getC ?_ rfl); (first | omega | (simp only [std]; omega) | grind)) | exact look_mI | exact look_mO | exact look_mO1 | exact look_mS | exact look_mL | exact upd_mI | exact upd_mO | exact del_mO | exact upd_mS | exact take_mL | (refine upd_mL ?_; grind) | (show (_ : St) = _; rfl) | grind [areB, areTo, plc_zero, snocI, snocS, rowSnoc]))
mutual
/-- is no scope greater than a number? -/
def blw (n : Int) : Syntax -> Bool
  | ⟨_, _, _, s, l⟩ => s.all (fun x => decide (x <= n)) && blws n l
def blws (n : Int) : List Syntax -> Bool
  | [] => true
  | x :: r => blw n x && blws n r
end
theorem blws_eq (n : Int) : ∀ l, blws n l = l.all (blw n)
  | [] => by simp [blws]
  | x :: r => by rw [blws, blws_eq n r]; rfl
def scB (n : Int) (L : List Int) : Bool := L.all fun x => decide (x <= n)
theorem blw_eq (n : Int) (s : Syntax) : blw n s = (scB n s.scopes && s.items.all (blw n)) := by cases s; simp only [blw, blws_eq, scB]
theorem scB_stop {n : Int} {L : List Int} {k : Nat} (h : k < L.length) (e : n < L.getD k 0) : scB n L = false := by
  unfold scB; rw [List.all_eq_false]; exact ⟨L.getD k 0, getD_mem' h, by rw [decide_eq_false (by omega)]; decide⟩
abbrev Z5z (s : Syntax) (n : Int) : Prop := CallOK Tryz.prog 158 [] [syntaxA s, li n] [] (.sv (lb (blw n s)))
def Zct (s : Syntax) (n : Int) (x0 : SV) : St := St.mk (regsOf 32 [(1, AV.sv (li n)), (21, AV.sv (ll (List.map syntaxC (Syntax.items s)))), (22, AV.sv (li (↑(List.length
 (List.map syntaxC (Syntax.items s))) : Int))), (23, AV.sv x0)]) [] 0 
def Z2n (s : Syntax) (n : Int) (k : Nat) : St := Zct s n (li (k : Int)) 
abbrev Z7a (s : Syntax) (n : Int) : Nat -> St -> Prop := Head (Z2n s n) (fun k => k <= List.length (Syntax.items s) /\ List.length (Syntax.items s) <=
 9223372036854775807 /\ List.all (List.take k (Syntax.items s)) (blw n) = true) fun k => List.length (Syntax.items s) - k 
def Zbk (s : Syntax) (n : Int) : St := St.mk (regsOf 32 []) [] 0 
def Z8w (s : Syntax) (n : Int) (x0 : SV) : St := St.mk (regsOf 32 [(4, AV.sv x0)]) [] 0 
def Zhg (s : Syntax) (n : Int) : List (Prop × AEx × St) := [(List.all (Syntax.items s) (blw n) = true, AEx.exit 2, Zbk s n), (List.all (Syntax.items s) (blw n)
 = false, AEx.ret, Z8w s n (lb false))]
def Zcu (s : Syntax) (n : Int) (x0 : SV) : St := St.mk (regsOf 32 [(1, AV.sv (li n)), (2, AV.sv (SV.one (AC.ptr 0 0))), (10, AV.sv (ll (List.map intC (Syntax.scopes
 s)))), (11, AV.sv (li (↑(List.length (List.map intC (Syntax.scopes s))) : Int))), (12, AV.sv x0)]) [Ob.box (vals (syntaxF s))] 0 
def Z2o (s : Syntax) (n : Int) (k : Nat) : St := Zcu s n (li (k : Int)) 
abbrev Z7b (s : Syntax) (n : Int) : Nat -> St -> Prop := Head (Z2o s n) (fun k => k <= List.length (Syntax.scopes s) /\ List.length (Syntax.scopes s) <=
 9223372036854775807 /\ scB n (List.take k (Syntax.scopes s)) = true) fun k => List.length (Syntax.scopes s) - k 
def Zbl (s : Syntax) (n : Int) : St := St.mk (regsOf 32 [(1, AV.sv (li n)), (2, AV.sv (SV.one (AC.ptr 0 0)))]) [Ob.box (vals (syntaxF s))] 0 
def Z3w (s : Syntax) (n : Int) (x0 : SV) : St := St.mk (regsOf 32 [(4, AV.sv x0)]) [] 0 
def Zhh (s : Syntax) (n : Int) : List (Prop × AEx × St) := [(scB n (Syntax.scopes s) = true, AEx.exit 0, Zbl s n), (blw n s = false, AEx.ret, Z3w s
 n (lb false))]

theorem Zhi {s : Syntax} {n : Int} {k : Nat} {x0 : SV} (h0 : x0 = (li (k : Int))) : Zct s n x0 = Z2n s n k := by
  rw [h0]
  rfl
theorem Zei {s : Syntax} {n : Int} {x0 y0 : SV} (h0 : x0 = y0) : Z8w s n x0 = Z8w s n y0 := by rw [h0]
theorem Zrl (s : Syntax) (n : Int) (k : Nat) : aexec Tryz.prog (loopAt Tryz.f158 1) (Z2n s n k) [.br [.cells (syntaxF (List.getD (Syntax.items s) k
 default)), .call [Mode.rd, Mode.rd] [] (AV.sv (lb (blw n (List.getD (Syntax.items s) k default)))), .br [.ghost (.sel [] [4]), .out 1] [.ghost (.sel []
 [1, 21, 22, 23]), .goto (List.length (Syntax.items s) - (k + 1)) (Z2n s n (k + 1))]] [.ghost (.sel [] []), .out 0]] (loopK (Z7a s n)
 (Zhg s n) (List.length (Syntax.items s) - k)) = ((decide ((k : Int) < (↑(List.length (List.map syntaxC (Syntax.items s))) : Int)) = true -> (0 <= (k : Int) /\ (List.map
 syntaxC (Syntax.items s))[Int.toNat (k : Int)]? = some (syntaxF (List.getD (Syntax.items s) k default))) /\ Z5z (List.getD (Syntax.items s) k default) n /\ ((!blw n
 (List.getD (Syntax.items s) k default)) = true -> List.all (Syntax.items s) (blw n) = false /\ Z3w s n (lb false) = Z8w s n (lb false)) /\ ((!blw n (List.getD
 (Syntax.items s) k default)) = false -> rng .i64 ((k : Int) + 1) /\ List.length (Syntax.items s) - (k + 1) < List.length (Syntax.items s) - k /\ Zct s n (li ((↑k :
 Int) + 1)) = Z2n s n (k + 1) /\ Z7a s n (List.length (Syntax.items s) - (k + 1)) (Z2n s n (k + 1)))) /\ (decide ((k : Int) < (↑(List.length (List.map
 syntaxC (Syntax.items s))) : Int)) = false -> List.all (Syntax.items s) (blw n) = true /\ Zbk s n = Zbk s n)) := by kernel_rfl

theorem Zhj {s : Syntax} {n : Int} {k : Nat} {x0 : SV} (h0 : x0 = (li (k : Int))) : Zcu s n x0 = Z2o s n k := by
  rw [h0]
  rfl
theorem Zej {s : Syntax} {n : Int} {x0 y0 : SV} (h0 : x0 = y0) : Z3w s n x0 = Z3w s n y0 := by rw [h0]
theorem Zrm (s : Syntax) (n : Int) (k : Nat) : aexec Tryz.prog (loopAt Tryz.f158 0) (Z2o s n k) [.br [.cells (intC (List.getD (Syntax.scopes s) k
 default)), .br [.ghost (.sel [] [4]), .out 1] [.ghost (.sel [0] [1, 2, 10, 11, 12]), .goto (List.length (Syntax.scopes s) - (k + 1)) (Z2o s n (k
 + 1))]] [.ghost (.sel [0] [1, 2]), .out 0]] (loopK (Z7b s n) (Zhh s n) (List.length (Syntax.scopes s) - k)) = ((decide ((k : Int) < (↑(List.length
 (List.map intC (Syntax.scopes s))) : Int)) = true -> (0 <= (k : Int) /\ (List.map intC (Syntax.scopes s))[Int.toNat (k : Int)]? = some [cI (List.getD (Syntax.scopes s) k 0)]) /\
 (decide (n < List.getD (Syntax.scopes s) k 0) = true -> blw n s = false /\ Z3w s n (lb false) = Z3w s n (lb false)) /\ (decide (n < List.getD (Syntax.scopes s)
 k 0) = false -> rng .i64 ((k : Int) + 1) /\ List.length (Syntax.scopes s) - (k + 1) < List.length (Syntax.scopes s) - k /\ Zcu s n (li ((k : Int) + 1)) =
 Z2o s n (k + 1) /\ Z7b s n (List.length (Syntax.scopes s) - (k + 1)) (Z2o s n (k + 1)))) /\ (decide ((k : Int) < (↑(List.length (List.map intC
 (Syntax.scopes s))) : Int)) = false -> scB n (Syntax.scopes s) = true /\ Zbl s n = Zbl s n)) := by kernel_rfl
theorem Zob (s : Syntax) (n : Int) (ih : ∀ (z : Syntax), z ∈ Syntax.items s -> ∀ (n : Int), Z5z z n)  : LoopSem Tryz.prog (loopAt Tryz.f158 1) (Z7a s n)
 (Zhg s n) := by
  refine LoopSem.ofHead wide fun k h => ⟨_, _, Zrl s n k, ?_⟩
  with_reducible repeat' (first | apply And.intro | exact flatI | exact flatS | exact rowLens | exact ih | (intro; skip) | apply obsN | apply obsC | apply obA | apply obM | apply obB | apply svA | apply tupA | apply lcA | apply lcS | apply svC | apply liC | apply lbC | apply lsC | apply vIc | apply vBc | apply vSc | apply vLc | apply mapC | apply hdI | apply mIc | apply mOc | apply mSc | apply mLc | apply Zhj | apply Zhi | apply Zei | apply Zej | apply ih)
  all_goals (try simp only [std] at *)
  all_goals (try (first | with_reducible apply ih | (simp only [<- List.map_append]; first | with_reducible apply ih)))
  all_goals (try (first | with_reducible rfl | omega | assumption | exact dT ‹_› | exact dF ‹_› | ((first | refine rowGet ?_ | refine getC ?_ rfl); (first | omega | (simp only [std]; omega) | grind)) | exact look_mI | exact look_mO | exact look_mO1 | exact look_mS | exact look_mL | exact upd_mI | exact upd_mO | exact del_mO | exact upd_mS | exact take_mL | (refine upd_mL ?_; grind) | (show (_ : St) = _; rfl) | grind [take_get, getD_mem', snocI, snocS, rowSnoc]))
theorem Zwh (s : Syntax) (n : Int) (ih : ∀ (z : Syntax), z ∈ Syntax.items s -> ∀ (n : Int), Z5z z n)  : LoopSem Tryz.prog (loopAt Tryz.f158 0) (Z7b s n)
 (Zhh s n) := by
  refine LoopSem.ofHead wide fun k h => ⟨_, _, Zrm s n k, ?_⟩
  have g1 := blw_eq n s
  have g2 := @scB_stop n s.scopes k
  with_reducible repeat' (first | apply And.intro | exact flatI | exact flatS | exact rowLens | exact ih | (intro; skip) | apply obsN | apply obsC | apply obA | apply obM | apply obB | apply svA | apply tupA | apply lcA | apply lcS | apply svC | apply liC | apply lbC | apply lsC | apply vIc | apply vBc | apply vSc | apply vLc | apply mapC | apply hdI | apply mIc | apply mOc | apply mSc | apply mLc | apply Zhj | apply Zhi | apply Zob | apply Zei | apply Zej | apply ih)
  all_goals (try simp only [std] at *)
  all_goals (try (first | with_reducible apply ih | (simp only [<- List.map_append]; first | with_reducible apply ih)))
  all_goals (try (first | with_reducible rfl | omega | assumption | exact dT ‹_› | exact dF ‹_› | ((first | refine rowGet ?_ | refine getC ?_ rfl); (first | omega | (simp only [std]; omega) | grind)) | exact look_mI | exact look_mO | exact look_mO1 | exact look_mS | exact look_mL | exact upd_mI | exact upd_mO | exact del_mO | exact upd_mS | exact take_mL | (refine upd_mL ?_; grind) | (show (_ : St) = _; rfl) | grind [take_get, getD_mem', scB, snocI, snocS, rowSnoc]))
theorem Zuh (s : Syntax) (n : Int) : aexec Tryz.prog (Tryz.f158.body.getD .skip) (entry [] [syntaxA s, li n] 32) [.ghost (.sel [0] [1, 2, 10,
 11, 12]), .loop (List.length (Syntax.scopes s) - 0) (Z2o s n 0) (Z7b s n) [(scB n (Syntax.scopes s) = true, AEx.exit 0, Zbl s n, [.ghost
 (.sel [] [1, 21, 22, 23]), .loop (List.length (Syntax.items s) - 0) (Z2n s n 0) (Z7a s n) [(List.all (Syntax.items s) (blw n) = true, AEx.exit 2,
 Zbk s n, [.fin []]), (List.all (Syntax.items s) (blw n) = false, AEx.ret, Z8w s n (lb false), [.fin []])]]), (blw n s = false, AEx.ret, Z3w
 s n (lb false), [.fin []])]] (finK Tryz.prog [ResultVar.tmp 4] [] (AV.sv (lb (blw n s)))) = (List.length (List.map intC (Syntax.scopes s)) <= 9223372036854775807 -> Zcu
 s n (li 0) = Z2o s n 0 /\ Z7b s n (List.length (Syntax.scopes s) - 0) (Z2o s n 0) /\ LoopSem Tryz.prog (loopAt Tryz.f158 0) (Z7b s n)
 (Zhh s n) /\ (scB n (Syntax.scopes s) = true -> List.length (List.map syntaxC (Syntax.items s)) <= 9223372036854775807 -> Zct s n (li 0) = Z2n s n 0 /\
 Z7a s n (List.length (Syntax.items s) - 0) (Z2n s n 0) /\ LoopSem Tryz.prog (loopAt Tryz.f158 1) (Z7a s n) (Zhg s n) /\ (List.all
 (Syntax.items s) (blw n) = true -> ObsEq [] [] /\ AV.sv (lb true) = AV.sv (lb (blw n s))) /\ (List.all (Syntax.items s) (blw n) = false -> ObsEq [] [] /\ AV.sv (lb false) = AV.sv (lb
 (blw n s))) /\ True) /\ (blw n s = false -> ObsEq [] [] /\ AV.sv (lb false) = AV.sv (lb (blw n s))) /\ True) := by kernel_rfl
theorem Z10h (s : Syntax) (n : Int) (ih : ∀ z ∈ s.items, ∀ (n : Int), Z5z z n)  : Z5z s n := by
  refine CallOK.ofRun wide (Zuh s n) Tryz.call158 Tryz.func158 rfl rfl rfl ?_
  have g1 := blw_eq n s
  with_reducible repeat' (first | apply And.intro | exact flatI | exact flatS | exact rowLens | exact ih | (intro; skip) | apply obsN | apply obsC | apply obA | apply obM | apply obB | apply svA | apply tupA | apply lcA | apply lcS | apply svC | apply liC | apply lbC | apply lsC | apply vIc | apply vBc | apply vSc | apply vLc | apply mapC | apply hdI | apply mIc | apply mOc | apply mSc | apply mLc | apply Zhj | apply Zwh | apply Zhi | apply Zob | apply Zei | apply Zej)
  all_goals (try simp only [std] at *)
  all_goals (try (first | with_reducible apply ih | (simp only [<- List.map_append]; first | with_reducible apply ih)))
  all_goals (try (first | with_reducible rfl | omega | assumption | exact dT ‹_› | exact dF ‹_› | ((first | refine rowGet ?_ | refine getC ?_ rfl); (first | omega | (simp only [std]; omega) | grind)) | exact look_mI | exact look_mO | exact look_mO1 | exact look_mS | exact look_mL | exact upd_mI | exact upd_mO | exact del_mO | exact upd_mS | exact take_mL | (refine upd_mL ?_; grind) | (show (_ : St) = _; rfl) | grind [scB, snocI, snocS, rowSnoc]))
theorem Z5h (s : Syntax) : ∀ (n : Int), Z5z s n := Syntax.ind (P := fun s => ∀ (n : Int), Z5z s n) (fun s ih n => Z10h s n ih) s
abbrev Z60 (s : Syntax) (n : Int) : Prop := CallOK Tryz.prog 116 [] [syntaxA s, li n] [] (.sv (lb (blw n s)))
def Zcv (s : Syntax) (n : Int) (x0 : SV) : St := St.mk (regsOf 32 [(1, AV.sv (li n)), (21, AV.sv (ll (List.map syntaxC (Syntax.items s)))), (22, AV.sv (li (↑(List.length
 (List.map syntaxC (Syntax.items s))) : Int))), (23, AV.sv x0)]) [] 0 
def Z2p (s : Syntax) (n : Int) (k : Nat) : St := Zcv s n (li (k : Int)) 
abbrev Z7c (s : Syntax) (n : Int) : Nat -> St -> Prop := Head (Z2p s n) (fun k => k <= List.length (Syntax.items s) /\ List.length (Syntax.items s) <=
 9223372036854775807 /\ List.all (List.take k (Syntax.items s)) (blw n) = true) fun k => List.length (Syntax.items s) - k 
def Zbm (s : Syntax) (n : Int) : St := St.mk (regsOf 32 []) [] 0 
def Z8x (s : Syntax) (n : Int) (x0 : SV) : St := St.mk (regsOf 32 [(4, AV.sv x0)]) [] 0 
def Zhk (s : Syntax) (n : Int) : List (Prop × AEx × St) := [(List.all (Syntax.items s) (blw n) = true, AEx.exit 2, Zbm s n), (List.all (Syntax.items s) (blw n)
 = false, AEx.ret, Z8x s n (lb false))]
def Zcw (s : Syntax) (n : Int) (x0 : SV) : St := St.mk (regsOf 32 [(1, AV.sv (li n)), (2, AV.sv (SV.one (AC.ptr 0 0))), (10, AV.sv (ll (List.map intC (Syntax.scopes
 s)))), (11, AV.sv (li (↑(List.length (List.map intC (Syntax.scopes s))) : Int))), (12, AV.sv x0)]) [Ob.box (vals (syntaxF s))] 0 
def Z2q (s : Syntax) (n : Int) (k : Nat) : St := Zcw s n (li (k : Int)) 
abbrev Z7d (s : Syntax) (n : Int) : Nat -> St -> Prop := Head (Z2q s n) (fun k => k <= List.length (Syntax.scopes s) /\ List.length (Syntax.scopes s) <=
 9223372036854775807 /\ scB n (List.take k (Syntax.scopes s)) = true) fun k => List.length (Syntax.scopes s) - k 
def Zbn (s : Syntax) (n : Int) : St := St.mk (regsOf 32 [(1, AV.sv (li n)), (2, AV.sv (SV.one (AC.ptr 0 0)))]) [Ob.box (vals (syntaxF s))] 0 
def Z3x (s : Syntax) (n : Int) (x0 : SV) : St := St.mk (regsOf 32 [(4, AV.sv x0)]) [] 0 
def Zhl (s : Syntax) (n : Int) : List (Prop × AEx × St) := [(scB n (Syntax.scopes s) = true, AEx.exit 0, Zbn s n), (blw n s = false, AEx.ret, Z3x s
 n (lb false))]

theorem Zhm {s : Syntax} {n : Int} {k : Nat} {x0 : SV} (h0 : x0 = (li (k : Int))) : Zcv s n x0 = Z2p s n k := by
  rw [h0]
  rfl
theorem Zek {s : Syntax} {n : Int} {x0 y0 : SV} (h0 : x0 = y0) : Z8x s n x0 = Z8x s n y0 := by rw [h0]
theorem Zrn (s : Syntax) (n : Int) (k : Nat) : aexec Tryz.prog (loopAt Tryz.f116 1) (Z2p s n k) [.br [.cells (syntaxF (List.getD (Syntax.items s) k
 default)), .call [Mode.rd, Mode.rd] [] (AV.sv (lb (blw n (List.getD (Syntax.items s) k default)))), .br [.ghost (.sel [] [4]), .out 1] [.ghost (.sel []
 [1, 21, 22, 23]), .goto (List.length (Syntax.items s) - (k + 1)) (Z2p s n (k + 1))]] [.ghost (.sel [] []), .out 0]] (loopK (Z7c s n)
 (Zhk s n) (List.length (Syntax.items s) - k)) = ((decide ((k : Int) < (↑(List.length (List.map syntaxC (Syntax.items s))) : Int)) = true -> (0 <= (k : Int) /\ (List.map
 syntaxC (Syntax.items s))[Int.toNat (k : Int)]? = some (syntaxF (List.getD (Syntax.items s) k default))) /\ Z60 (List.getD (Syntax.items s) k default) n /\ ((!blw n
 (List.getD (Syntax.items s) k default)) = true -> List.all (Syntax.items s) (blw n) = false /\ Z3x s n (lb false) = Z8x s n (lb false)) /\ ((!blw n (List.getD
 (Syntax.items s) k default)) = false -> rng .i64 ((k : Int) + 1) /\ List.length (Syntax.items s) - (k + 1) < List.length (Syntax.items s) - k /\ Zcv s n (li ((↑k :
 Int) + 1)) = Z2p s n (k + 1) /\ Z7c s n (List.length (Syntax.items s) - (k + 1)) (Z2p s n (k + 1)))) /\ (decide ((k : Int) < (↑(List.length (List.map
 syntaxC (Syntax.items s))) : Int)) = false -> List.all (Syntax.items s) (blw n) = true /\ Zbm s n = Zbm s n)) := by kernel_rfl

theorem Zhn {s : Syntax} {n : Int} {k : Nat} {x0 : SV} (h0 : x0 = (li (k : Int))) : Zcw s n x0 = Z2q s n k := by
  rw [h0]
  rfl
theorem Zel {s : Syntax} {n : Int} {x0 y0 : SV} (h0 : x0 = y0) : Z3x s n x0 = Z3x s n y0 := by rw [h0]
theorem Zro (s : Syntax) (n : Int) (k : Nat) : aexec Tryz.prog (loopAt Tryz.f116 0) (Z2q s n k) [.br [.cells (intC (List.getD (Syntax.scopes s) k
 default)), .br [.ghost (.sel [] [4]), .out 1] [.ghost (.sel [0] [1, 2, 10, 11, 12]), .goto (List.length (Syntax.scopes s) - (k + 1)) (Z2q s n (k
 + 1))]] [.ghost (.sel [0] [1, 2]), .out 0]] (loopK (Z7d s n) (Zhl s n) (List.length (Syntax.scopes s) - k)) = ((decide ((k : Int) < (↑(List.length
 (List.map intC (Syntax.scopes s))) : Int)) = true -> (0 <= (k : Int) /\ (List.map intC (Syntax.scopes s))[Int.toNat (k : Int)]? = some [cI (List.getD (Syntax.scopes s) k 0)]) /\
 (decide (n < List.getD (Syntax.scopes s) k 0) = true -> blw n s = false /\ Z3x s n (lb false) = Z3x s n (lb false)) /\ (decide (n < List.getD (Syntax.scopes s)
 k 0) = false -> rng .i64 ((k : Int) + 1) /\ List.length (Syntax.scopes s) - (k + 1) < List.length (Syntax.scopes s) - k /\ Zcw s n (li ((k : Int) + 1)) =
 Z2q s n (k + 1) /\ Z7d s n (List.length (Syntax.scopes s) - (k + 1)) (Z2q s n (k + 1)))) /\ (decide ((k : Int) < (↑(List.length (List.map intC
 (Syntax.scopes s))) : Int)) = false -> scB n (Syntax.scopes s) = true /\ Zbn s n = Zbn s n)) := by kernel_rfl
theorem Zoc (s : Syntax) (n : Int) (ih : ∀ (z : Syntax), z ∈ Syntax.items s -> ∀ (n : Int), Z60 z n)  : LoopSem Tryz.prog (loopAt Tryz.f116 1) (Z7c s n)
 (Zhk s n) := by
  refine LoopSem.ofHead wide fun k h => ⟨_, _, Zrn s n k, ?_⟩
  with_reducible repeat' (first | apply And.intro | exact flatI | exact flatS | exact rowLens | exact ih | (intro; skip) | apply obsN | apply obsC | apply obA | apply obM | apply obB | apply svA | apply tupA | apply lcA | apply lcS | apply svC | apply liC | apply lbC | apply lsC | apply vIc | apply vBc | apply vSc | apply vLc | apply mapC | apply hdI | apply mIc | apply mOc | apply mSc | apply mLc | apply Zhn | apply Zhm | apply Zek | apply Zel | apply ih)
  all_goals (try simp only [std] at *)
  all_goals (try (first | with_reducible apply ih | (simp only [<- List.map_append]; first | with_reducible apply ih)))
  all_goals (try (first | with_reducible rfl | omega | assumption | exact dT ‹_› | exact dF ‹_› | ((first | refine rowGet ?_ | refine getC ?_ rfl); (first | omega | (simp only [std]; omega) | grind)) | exact look_mI | exact look_mO | exact look_mO1 | exact look_mS | exact look_mL | exact upd_mI | exact upd_mO | exact del_mO | exact upd_mS | exact take_mL | (refine upd_mL ?_; grind) | (show (_ : St) = _; rfl) | grind [take_get, getD_mem', snocI, snocS, rowSnoc]))
theorem Zwi (s : Syntax) (n : Int) (ih : ∀ (z : Syntax), z ∈ Syntax.items s -> ∀ (n : Int), Z60 z n)  : LoopSem Tryz.prog (loopAt Tryz.f116 0) (Z7d s n)
 (Zhl s n) := by
  refine LoopSem.ofHead wide fun k h => ⟨_, _, Zro s n k, ?_⟩
  have g1 := blw_eq n s
  have g2 := @scB_stop n s.scopes k
  with_reducible repeat' (first | apply And.intro | exact flatI | exact flatS | exact rowLens | exact ih | (intro; skip) | apply obsN | apply obsC | apply obA | apply obM | apply obB | apply svA | apply tupA | apply lcA | apply lcS | apply svC | apply liC | apply lbC | apply lsC | apply vIc | apply vBc | apply vSc | apply vLc | apply mapC | apply hdI | apply mIc | apply mOc | apply mSc | apply mLc | apply Zhn | apply Zhm | apply Zoc | apply Zek | apply Zel | apply ih)
  all_goals (try simp only [std] at *)
  all_goals (try (first | with_reducible apply ih | (simp only [<- List.map_append]; first | with_reducible apply ih)))
  all_goals (try (first | with_reducible rfl | omega | assumption | exact dT ‹_› | exact dF ‹_› | ((first | refine rowGet ?_ | refine getC ?_ rfl); (first | omega | (simp only [std]; omega) | grind)) | exact look_mI | exact look_mO | exact look_mO1 | exact look_mS | exact look_mL | exact upd_mI | exact upd_mO | exact del_mO | exact upd_mS | exact take_mL | (refine upd_mL ?_; grind) | (show (_ : St) = _; rfl) | grind [take_get, getD_mem', scB, snocI, snocS, rowSnoc]))
theorem Zui (s : Syntax) (n : Int) : aexec Tryz.prog (Tryz.f116.body.getD .skip) (entry [] [syntaxA s, li n] 32) [.ghost (.sel [0] [1, 2, 10,
 11, 12]), .loop (List.length (Syntax.scopes s) - 0) (Z2q s n 0) (Z7d s n) [(scB n (Syntax.scopes s) = true, AEx.exit 0, Zbn s n, [.ghost
 (.sel [] [1, 21, 22, 23]), .loop (List.length (Syntax.items s) - 0) (Z2p s n 0) (Z7c s n) [(List.all (Syntax.items s) (blw n) = true, AEx.exit 2,
 Zbm s n, [.fin []]), (List.all (Syntax.items s) (blw n) = false, AEx.ret, Z8x s n (lb false), [.fin []])]]), (blw n s = false, AEx.ret, Z3x
 s n (lb false), [.fin []])]] (finK Tryz.prog [ResultVar.tmp 4] [] (AV.sv (lb (blw n s)))) = (List.length (List.map intC (Syntax.scopes s)) <= 9223372036854775807 -> Zcw
 s n (li 0) = Z2q s n 0 /\ Z7d s n (List.length (Syntax.scopes s) - 0) (Z2q s n 0) /\ LoopSem Tryz.prog (loopAt Tryz.f116 0) (Z7d s n)
 (Zhl s n) /\ (scB n (Syntax.scopes s) = true -> List.length (List.map syntaxC (Syntax.items s)) <= 9223372036854775807 -> Zcv s n (li 0) = Z2p s n 0 /\
 Z7c s n (List.length (Syntax.items s) - 0) (Z2p s n 0) /\ LoopSem Tryz.prog (loopAt Tryz.f116 1) (Z7c s n) (Zhk s n) /\ (List.all
 (Syntax.items s) (blw n) = true -> ObsEq [] [] /\ AV.sv (lb true) = AV.sv (lb (blw n s))) /\ (List.all (Syntax.items s) (blw n) = false -> ObsEq [] [] /\ AV.sv (lb false) = AV.sv (lb
 (blw n s))) /\ True) /\ (blw n s = false -> ObsEq [] [] /\ AV.sv (lb false) = AV.sv (lb (blw n s))) /\ True) := by kernel_rfl
theorem Z10i (s : Syntax) (n : Int) (ih : ∀ z ∈ s.items, ∀ (n : Int), Z60 z n)  : Z60 s n := by
  refine CallOK.ofRun wide (Zui s n) Tryz.call116 Tryz.func116 rfl rfl rfl ?_
  have g1 := blw_eq n s
  with_reducible repeat' (first | apply And.intro | exact flatI | exact flatS | exact rowLens | exact ih | (intro; skip) | apply obsN | apply obsC | apply obA | apply obM | apply obB | apply svA | apply tupA | apply lcA | apply lcS | apply svC | apply liC | apply lbC | apply lsC | apply vIc | apply vBc | apply vSc | apply vLc | apply mapC | apply hdI | apply mIc | apply mOc | apply mSc | apply mLc | apply Zhn | apply Zwi | apply Zhm | apply Zoc | apply Zek | apply Zel)
  all_goals (try simp only [std] at *)
  all_goals (try (first | with_reducible apply ih | (simp only [<- List.map_append]; first | with_reducible apply ih)))
  all_goals (try (first | with_reducible rfl | omega | assumption | exact dT ‹_› | exact dF ‹_› | ((first | refine rowGet ?_ | refine getC ?_ rfl); (first | omega | (simp only [std]; omega) | grind)) | exact look_mI | exact look_mO | exact look_mO1 | exact look_mS | exact look_mL | exact upd_mI | exact upd_mO | exact del_mO | exact upd_mS | exact take_mL | (refine upd_mL ?_; grind) | (show (_ : St) = _; rfl) | grind [scB, snocI, snocS, rowSnoc]))
theorem Z9i (s : Syntax) : ∀ (n : Int), Z60 s n := Syntax.ind (P := fun s => ∀ (n : Int), Z60 s n) (fun s ih n => Z10i s n ih) s
def ruL (r : Rules) : List (List Syntax) := [r.literals, r.patterns, r.templates]
def allB (n : Int) (L : List Syntax) : Bool := L.all (blw n)
def rulB (n : Int) (r : Rules) : Bool := (ruL r).all (allB n)
theorem rulB_eq (n : Int) (r : Rules) : rulB n r = (allB n r.literals && allB n r.patterns && allB n r.templates) := by
  simp only [rulB, ruL, List.all_cons, List.all_nil, Bool.and_true, Bool.and_assoc]
def lsynC (l : List Syntax) : List Cell := [.list (l.map syntaxC)]
def lsynF (l : List Syntax) : List Cell := [.list (l.map syntaxC)]
instance : Row (List Syntax) lsynC lsynF 1 := ⟨fun _ => rfl, fun _ => rfl⟩
theorem ruL_cells (r : Rules) : [[Cell.list (r.literals.map syntaxC)], [Cell.list (r.patterns.map syntaxC)], [Cell.list (r.templates.map syntaxC)]] = (ruL r).map lsynC := rfl
abbrev Zkq (L : List Syntax) (n : Int) : Prop := CallOK Tryz.prog 166 [] [ll (L.map syntaxC), li n] [] (.sv (lb (allB n L)))
def Zim (L : List Syntax) (n : Int) (x0 : SV) : St := St.mk (regsOf 18 [(1, AV.sv (li n)), (7, AV.sv (ll (List.map syntaxC L))), (8, AV.sv (li (↑(List.length (List.map
 syntaxC L)) : Int))), (9, AV.sv x0)]) [] 0 
def Z61 (L : List Syntax) (n : Int) (k : Nat) : St := Zim L n (li (k : Int)) 
abbrev Zbo (L : List Syntax) (n : Int) : Nat -> St -> Prop := Head (Z61 L n) (fun k => k <= List.length L /\ List.length L <= 9223372036854775807 /\ List.all (List.take k L)
 (blw n) = true) fun k => List.length L - k 
def Zgc (L : List Syntax) (n : Int) : St := St.mk (regsOf 18 []) [] 0 
def Za0 (L : List Syntax) (n : Int) (x0 : SV) : St := St.mk (regsOf 18 [(4, AV.sv x0)]) [] 0 
def Znj (L : List Syntax) (n : Int) : List (Prop × AEx × St) := [(allB n L = true, AEx.exit 0, Zgc L n), (allB n L = false, AEx.ret, Za0 L n (lb false))]

theorem Zta {L : List Syntax} {n : Int} {k : Nat} {x0 : SV} (h0 : x0 = (li (k : Int))) : Zim L n x0 = Z61 L n k := by
  rw [h0]
  rfl
theorem Zpt {L : List Syntax} {n : Int} {x0 y0 : SV} (h0 : x0 = y0) : Za0 L n x0 = Za0 L n y0 := by rw [h0]
theorem Zwj (L : List Syntax) (n : Int) (k : Nat) : aexec Tryz.prog (loopAt Tryz.f166 0) (Z61 L n k) [.br [.cells (syntaxF (List.getD L k default)), .call
 [Mode.rd, Mode.rd] [] (AV.sv (lb (blw n (List.getD L k default)))), .br [.ghost (.sel [] [4]), .out 1] [.ghost (.sel [] [1, 7, 8, 9]), .goto (List.length
 L - (k + 1)) (Z61 L n (k + 1))]] [.ghost (.sel [] []), .out 0]] (loopK (Zbo L n) (Znj L n) (List.length L - k)) = ((decide ((k : Int) <
 (↑(List.length (List.map syntaxC L)) : Int)) = true -> (0 <= (k : Int) /\ (List.map syntaxC L)[Int.toNat (k : Int)]? = some (syntaxF (List.getD L k default))) /\ Z60
 (List.getD L k default) n /\ ((!blw n (List.getD L k default)) = true -> allB n L = false /\ Za0 L n (lb false) = Za0 L n (lb false)) /\ ((!blw n (List.getD L k
 default)) = false -> rng .i64 ((k : Int) + 1) /\ List.length L - (k + 1) < List.length L - k /\ Zim L n (li ((k : Int) + 1)) = Z61 L n (k + 1) /\ Zbo L n
 (List.length L - (k + 1)) (Z61 L n (k + 1)))) /\ (decide ((k : Int) < (↑(List.length (List.map syntaxC L)) : Int)) = false -> allB n L = true /\ Zgc L n = Zgc
 L n)) := by kernel_rfl
theorem Z10j (L : List Syntax) (n : Int)  : LoopSem Tryz.prog (loopAt Tryz.f166 0) (Zbo L n) (Znj L n) := by
  refine LoopSem.ofHead wide fun k h => ⟨_, _, Zwj L n k, ?_⟩
  with_reducible repeat' (first | apply And.intro | exact flatI | exact flatS | exact rowLens | (intro; skip) | apply obsN | apply obsC | apply obA | apply obM | apply obB | apply svA | apply tupA | apply lcA | apply lcS | apply svC | apply liC | apply lbC | apply lsC | apply vIc | apply vBc | apply vSc | apply vLc | apply mapC | apply hdI | apply mIc | apply mOc | apply mSc | apply mLc | apply Zta | apply Zpt | apply Z9i)
  all_goals (try simp only [std] at *)
  all_goals (try (first | with_reducible apply Z9i | (simp only [<- List.map_append]; first | with_reducible apply Z9i)))
  all_goals (try (first | with_reducible rfl | omega | assumption | exact dT ‹_› | exact dF ‹_› | ((first | refine rowGet ?_ | refine getC ?_ rfl); (first | omega | (simp only [std]; omega) | grind)) | exact look_mI | exact look_mO | exact look_mO1 | exact look_mS | exact look_mL | exact upd_mI | exact upd_mO | exact del_mO | exact upd_mS | exact take_mL | (refine upd_mL ?_; grind) | (show (_ : St) = _; rfl) | grind [take_get, getD_mem', allB, snocI, snocS, rowSnoc]))
theorem Zzk (L : List Syntax) (n : Int) : aexec Tryz.prog (Tryz.f166.body.getD .skip) (entry [] [ll (List.map syntaxC L), li n] 18) [.ghost (.sel
 [] [1, 7, 8, 9]), .loop (List.length L - 0) (Z61 L n 0) (Zbo L n) [(allB n L = true, AEx.exit 0, Zgc L n, [.fin []]), (allB n L = false, AEx.ret,
 Za0 L n (lb false), [.fin []])]] (finK Tryz.prog [ResultVar.tmp 4] [] (AV.sv (lb (allB n L)))) = (List.length (List.map syntaxC L) <= 9223372036854775807 -> Zim L
 n (li 0) = Z61 L n 0 /\ Zbo L n (List.length L - 0) (Z61 L n 0) /\ LoopSem Tryz.prog (loopAt Tryz.f166 0) (Zbo L n) (Znj L n) /\ (allB n L = true ->
 ObsEq [] [] /\ AV.sv (lb true) = AV.sv (lb (allB n L))) /\ (allB n L = false -> ObsEq [] [] /\ AV.sv (lb false) = AV.sv (lb (allB n L))) /\ True) := by kernel_rfl
theorem Zuj (L : List Syntax) (n : Int)  : Zkq L n := by
  refine CallOK.ofRun wide (Zzk L n) Tryz.call166 Tryz.func166 rfl rfl rfl ?_
  with_reducible repeat' (first | apply And.intro | exact flatI | exact flatS | exact rowLens | (intro; skip) | apply obsN | apply obsC | apply obA | apply obM | apply obB | apply svA | apply tupA | apply lcA | apply lcS | apply svC | apply liC | apply lbC | apply lsC | apply vIc | apply vBc | apply vSc | apply vLc | apply mapC | apply hdI | apply mIc | apply mOc | apply mSc | apply mLc | apply Zta | apply Z10j | apply Zpt | apply Z9i)
  all_goals (try simp only [std] at *)
  all_goals (try (first | with_reducible apply Z9i | (simp only [<- List.map_append]; first | with_reducible apply Z9i)))
  all_goals (try (first | with_reducible rfl | omega | assumption | exact dT ‹_› | exact dF ‹_› | ((first | refine rowGet ?_ | refine getC ?_ rfl); (first | omega | (simp only [std]; omega) | grind)) | exact look_mI | exact look_mO | exact look_mO1 | exact look_mS | exact look_mL | exact upd_mI | exact upd_mO | exact del_mO | exact upd_mS | exact take_mL | (refine upd_mL ?_; grind) | (show (_ : St) = _; rfl) | grind [allB, snocI, snocS, rowSnoc]))
abbrev Zvq (r : Rules) (n : Int) : Prop := CallOK Tryz.prog 89 [] [rulesA r, li n] [] (.sv (lb (rulB n r)))
theorem Zzl (r : Rules) (n : Int) : aexec Tryz.prog (Tryz.f89.body.getD .skip) (entry [] [rulesA r, li n] 21) [.call [Mode.rd, Mode.rd] [] (AV.sv (lb
 (allB n (Rules.literals r)))), .br [.call [Mode.rd, Mode.rd] [] (AV.sv (lb (allB n (Rules.patterns r)))), .br [.call [Mode.rd, Mode.rd] [] (AV.sv (lb (allB n
 (Rules.templates r)))), .fin []] [.fin []]] [.bool false, .fin []]] (finK Tryz.prog [ResultVar.tmp 4] [] (AV.sv (lb (rulB n r)))) = (Zkq (Rules.literals r) n /\
 (allB n (Rules.literals r) = true -> Zkq (Rules.patterns r) n /\ (allB n (Rules.patterns r) = true -> Zkq (Rules.templates r) n /\ ObsEq [] [] /\ AV.sv (lb (allB n
 (Rules.templates r))) = AV.sv (lb (rulB n r))) /\ (allB n (Rules.patterns r) = false -> ObsEq [] [] /\ AV.sv (lb false) = AV.sv (lb (rulB n r)))) /\ (allB n (Rules.literals r) = false
 -> false = false /\ ObsEq [] [] /\ AV.sv (lb false) = AV.sv (lb (rulB n r)))) := by kernel_rfl
theorem Zbp (r : Rules) (n : Int)  : Zvq r n := by
  refine CallOK.ofRun wide (Zzl r n) Tryz.call89 Tryz.func89 rfl rfl rfl ?_
  have g1 := rulB_eq n r
  with_reducible repeat' (first | apply And.intro | exact flatI | exact flatS | exact rowLens | (intro; skip) | apply obsN | apply obsC | apply obA | apply obM | apply obB | apply svA | apply tupA | apply lcA | apply lcS | apply svC | apply liC | apply lbC | apply lsC | apply vIc | apply vBc | apply vSc | apply vLc | apply mapC | apply mIc | apply mOc | apply mSc | apply mLc | apply Zuj)
  all_goals (try simp only [std] at *)
  all_goals (try (first | with_reducible apply Zuj | (simp only [<- List.map_append]; first | with_reducible apply Zuj)))
  all_goals (try (first | with_reducible rfl | omega | assumption | exact dT ‹_› | exact dF ‹_› | ((first | refine rowGet ?_ | refine getC ?_ rfl); (first | omega | (simp only [std]; omega) | grind)) | exact look_mI | exact look_mO | exact look_mO1 | exact look_mS | exact look_mL | exact upd_mI | exact upd_mO | exact del_mO | exact upd_mS | exact take_mL | (refine upd_mL ?_; grind) | (show (_ : St) = _; rfl) | grind [snocI, snocS, rowSnoc]))
abbrev Zvr (r : Rules) (n : Int) : Prop := CallOK Tryz.prog 85 [] [rulesA r, li n] [] (.sv (lb (rulB n r)))
def Zin (r : Rules) (n : Int) (k : Nat) (x0 : SV) : St := St.mk (regsOf 33 [(1, AV.sv (li n)), (15, AV.sv (SV.one (AC.ref 0))), (16, AV.sv (li 3)), (17, AV.sv (li (↑k :
 Int))), (21, AV.sv (ll (List.map syntaxC (List.getD (ruL r) (Int.toNat (k : Int)) [])))), (22, AV.sv (li (↑(List.length (List.map syntaxC (List.getD (ruL r) (Int.toNat (↑k :
 Int)) []))) : Int))), (23, AV.sv x0)]) [Ob.arr false 1 (List.map lsynC (ruL r))] 0 
def Z62 (r : Rules) (n : Int) (k : Nat) (k1 : Nat) : St := Zin r n k (li (k1 : Int)) 
abbrev Zbq (r : Rules) (n : Int) (k : Nat) : Nat -> St -> Prop := Head (Z62 r n k) (fun k1 => k1 <= List.length (List.getD (ruL r) k []) /\ List.length (List.getD (ruL r) k
 []) <= 9223372036854775807 /\ k < 3 /\ List.all (List.take k1 (List.getD (ruL r) k [])) (blw n) = true) fun k1 => List.length (List.getD (ruL r) k []) - k1 
def Zgd (r : Rules) (n : Int) (k : Nat) : St := St.mk (regsOf 33 [(1, AV.sv (li n)), (15, AV.sv (SV.one (AC.ref 0))), (16, AV.sv (li 3)), (17, AV.sv (li (k : Int)))])
 [Ob.arr false 1 (List.map lsynC (ruL r))] 0 
def Zcd (r : Rules) (n : Int) (k : Nat) (x0 : SV) : St := St.mk (regsOf 33 [(4, AV.sv x0)]) [] 0 
def Znk (r : Rules) (n : Int) (k : Nat) : List (Prop × AEx × St) := [(allB n (List.getD (ruL r) k []) = true, AEx.exit 2, Zgd r n k), (rulB n r = false, AEx.ret,
 Zcd r n k (lb false))]
def Zio (r : Rules) (n : Int) (x0 : SV) (x1 : Ob) : St := St.mk (regsOf 33 [(1, AV.sv (li n)), (15, AV.sv (SV.one (AC.ref 0))), (16, AV.sv (li 3)), (17, AV.sv x0)]) [x1] 0 
def Z63 (r : Rules) (n : Int) (k : Nat) : St := Zio r n (li (k : Int)) (Ob.arr false 1 (List.map lsynC (ruL r))) 
abbrev Zbr (r : Rules) (n : Int) : Nat -> St -> Prop := Head (Z63 r n) (fun k => k <= 3 /\ List.all (List.take k (ruL r)) (allB n) = true) fun k => 3 - k 
def Zge (r : Rules) (n : Int) : St := St.mk (regsOf 33 []) [] 0 
def Z89 (r : Rules) (n : Int) (x0 : SV) : St := St.mk (regsOf 33 [(4, AV.sv x0)]) [] 0 
def Znl (r : Rules) (n : Int) : List (Prop × AEx × St) := [(rulB n r = true, AEx.exit 0, Zge r n), (rulB n r = false, AEx.ret, Z89 r n (lb false))]

theorem Znm {r : Rules} {n : Int} {k : Nat} {k1 : Nat} {x0 : SV} (h0 : x0 = (li (k1 : Int))) : Zin r n k x0 = Z62 r n k k1 := by
  rw [h0]
  rfl
theorem Zjs {r : Rules} {n : Int} {k : Nat} {x0 y0 : SV} (h0 : x0 = y0) : Zcd r n k x0 = Zcd r n k y0 := by rw [h0]
abbrev Z6x (r : Rules) (k : Nat) (k1 : Nat) := (List.getD (List.getD (ruL r) (Int.toNat (↑k : Int)) []) k1 default)
theorem Zwk (r : Rules) (n : Int) (k : Nat) (k1 : Nat) : aexec Tryz.prog (loopAt Tryz.f85 1) (Z62 r n k k1) [.br [.cells (syntaxF (Z6x r k k1)),
 .call [Mode.rd, Mode.rd] [] (AV.sv (lb (blw n (Z6x r k k1)))), .br [.ghost (.sel [] [4]), .out 1] [.ghost (.sel [0] [1, 15, 16, 17, 21, 22, 23]),
 .goto (List.length (List.getD (ruL r) k []) - (k1 + 1)) (Z62 r n k (k1 + 1))]] [.ghost (.sel [0] [1, 15, 16, 17]), .out 0]] (loopK (Zbq r n k)
 (Znk r n k) (List.length (List.getD (ruL r) k []) - k1)) = ((decide ((k1 : Int) < (↑(List.length (List.map syntaxC (List.getD (ruL r) (Int.toNat (k : Int)) []))) : Int))
 = true -> (0 <= (k1 : Int) /\ (List.map syntaxC (List.getD (ruL r) (Int.toNat (k : Int)) []))[Int.toNat (k1 : Int)]? = some (syntaxF (Z6x r k k1))) /\ Z5z
 (Z6x r k k1) n /\ ((!blw n (Z6x r k k1)) = true -> rulB n r = false /\ Z89 r n (lb false) = Zcd r n k (lb false)) /\ ((!blw n (Z6x r k k1))
 = false -> rng .i64 ((k1 : Int) + 1) /\ List.length (List.getD (ruL r) k []) - (k1 + 1) < List.length (List.getD (ruL r) k []) - k1 /\ Zin r n k (li ((k1 : Int) + 1))
 = Z62 r n k (k1 + 1) /\ Zbq r n k (List.length (List.getD (ruL r) k []) - (k1 + 1)) (Z62 r n k (k1 + 1)))) /\ (decide ((k1 : Int) < (↑(List.length (List.map
 syntaxC (List.getD (ruL r) (Int.toNat (k : Int)) []))) : Int)) = false -> allB n (List.getD (ruL r) k []) = true /\ Zgd r n k = Zgd r n k)) := by kernel_rfl

theorem Znn {r : Rules} {n : Int} {k : Nat} {x0 : SV} {x1 : Ob} (h0 : x0 = (li (k : Int))) (h1 : x1 = (Ob.arr false 1 (List.map lsynC (ruL r)))) : Zio r n x0 x1 =
 Z63 r n k := by
  rw [h0, h1]
  rfl
theorem Zjt {r : Rules} {n : Int} {x0 y0 : SV} (h0 : x0 = y0) : Z89 r n x0 = Z89 r n y0 := by rw [h0]
theorem Zwl (r : Rules) (n : Int) (k : Nat) : aexec Tryz.prog (loopAt Tryz.f85 0) (Z63 r n k) [.br [.cells (lsynF (List.getD (ruL r) (Int.toNat (k : Int))
 default)), .ghost (.sel [0] [1, 15, 16, 17, 21, 22, 23]), .loop (List.length (List.getD (ruL r) k []) - 0) (Z62 r n k 0) (Zbq r n k) [(allB n (List.getD
 (ruL r) k []) = true, AEx.exit 2, Zgd r n k, [.ghost (.sel [0] [1, 15, 16, 17]), .goto (3 - (k + 1)) (Z63 r n (k + 1))]), (rulB n r = false, AEx.ret,
 Zcd r n k (lb false), [.ghost (.sel [] [4]), .out 1])]] [.ghost (.sel [] []), .out 0]] (loopK (Zbr r n) (Znl r n) (3 - k)) = ((decide
 ((k : Int) < 3) = true -> (0 <= (k : Int) /\ Int.toNat (k : Int) < 3) /\ (List.map lsynC (ruL r))[Int.toNat (k : Int)]? = some [Cell.list (List.map syntaxC (List.getD (ruL r)
 (Int.toNat (k : Int)) []))] /\ (List.length (List.map syntaxC (List.getD (ruL r) (Int.toNat (k : Int)) [])) <= 9223372036854775807 -> Zin r n k (li 0) = Z62 r n k 0 /\
 Zbq r n k (List.length (List.getD (ruL r) k []) - 0) (Z62 r n k 0) /\ LoopSem Tryz.prog (loopAt Tryz.f85 1) (Zbq r n k) (Znk r n k) /\ (allB n (List.getD
 (ruL r) k []) = true -> rng .i64 ((k : Int) + 1) /\ 3 - (k + 1) < 3 - k /\ Zio r n (li ((k : Int) + 1)) (Ob.arr false 1 (List.map lsynC (ruL r))) = Z63 r n (k
 + 1) /\ Zbr r n (3 - (k + 1)) (Z63 r n (k + 1))) /\ (rulB n r = false -> rulB n r = false /\ Z89 r n (lb false) = Z89 r n (lb false)) /\ True)) /\ (decide
 ((k : Int) < 3) = false -> rulB n r = true /\ Zge r n = Zge r n)) := by kernel_rfl
theorem Ztb (r : Rules) (n : Int) (k : Nat)  : LoopSem Tryz.prog (loopAt Tryz.f85 1) (Zbq r n k) (Znk r n k) := by
  refine LoopSem.ofHead wide fun k1 h => ⟨_, _, Zwk r n k k1, ?_⟩
  try delta Z6x
  have e : (ruL r).length = 3 := rfl
  have g1 := @take_get _ _ ((ruL r).getD k []) k1
  have g2 : (ruL r).getD k default = (ruL r).getD k [] := rfl
  have g3 : k < (ruL r).length -> (ruL r).getD k [] ∈ ruL r := fun h => getD_mem' h
  with_reducible repeat' (first | apply And.intro | exact flatI | exact flatS | exact rowLens | (intro; skip) | apply obsN | apply obsC | apply obA | apply obM | apply obB | apply svA | apply tupA | apply lcA | apply lcS | apply svC | apply liC | apply lbC | apply lsC | apply vIc | apply vBc | apply vSc | apply vLc | apply mapC | apply hdI | apply mIc | apply mOc | apply mSc | apply mLc | apply Znn | apply Znm | apply Zjs | apply Zjt | apply Z5h)
  all_goals (try simp only [std] at *)
  all_goals (try (first | with_reducible apply Z5h | (simp only [<- List.map_append]; first | with_reducible apply Z5h)))
  all_goals (try (first | with_reducible rfl | omega | assumption | exact dT ‹_› | exact dF ‹_› | ((first | refine rowGet ?_ | refine getC ?_ rfl); (first | omega | (simp only [std]; omega) | grind)) | exact look_mI | exact look_mO | exact look_mO1 | exact look_mS | exact look_mL | exact upd_mI | exact upd_mO | exact del_mO | exact upd_mS | exact take_mL | (refine upd_mL ?_; grind) | (show (_ : St) = _; rfl) | grind [ruL_cells, rulB, allB, getD_mem', snocI, snocS, rowSnoc]))
theorem Z10k (r : Rules) (n : Int)  : LoopSem Tryz.prog (loopAt Tryz.f85 0) (Zbr r n) (Znl r n) := by
  refine LoopSem.ofHead wide fun k h => ⟨_, _, Zwl r n k, ?_⟩
  have e : (ruL r).length = 3 := rfl
  have g1 := @take_get _ _ (ruL r) k
  have g2 : (ruL r).getD k default = (ruL r).getD k [] := rfl
  with_reducible repeat' (first | apply And.intro | exact flatI | exact flatS | exact rowLens | (intro; skip) | apply obsN | apply obsC | apply obA | apply obM | apply obB | apply svA | apply tupA | apply lcA | apply lcS | apply svC | apply liC | apply lbC | apply lsC | apply vIc | apply vBc | apply vSc | apply vLc | apply mapC | apply hdI | apply mIc | apply mOc | apply mSc | apply mLc | apply Znn | apply Znm | apply Ztb | apply Zjs | apply Zjt | apply Z5h)
  all_goals (try simp only [std] at *)
  all_goals (try (first | with_reducible apply Z5h | (simp only [<- List.map_append]; first | with_reducible apply Z5h)))
  all_goals (try (first | with_reducible rfl | omega | assumption | exact dT ‹_› | exact dF ‹_› | ((first | refine rowGet ?_ | refine getC ?_ rfl); (first | omega | (simp only [std]; omega) | grind)) | exact look_mI | exact look_mO | exact look_mO1 | exact look_mS | exact look_mL | exact upd_mI | exact upd_mO | exact del_mO | exact upd_mS | exact take_mL | (refine upd_mL ?_; grind) | (show (_ : St) = _; rfl) | grind [ruL_cells, rulB, snocI, snocS, rowSnoc]))
theorem Zzm (r : Rules) (n : Int) : aexec Tryz.prog (Tryz.f85.body.getD .skip) (entry [] [rulesA r, li n] 33) [.ghost (.sel [1] [1, 15, 16, 17]),
 .loop 3 (Z63 r n 0) (Zbr r n) [(rulB n r = true, AEx.exit 0, Zge r n, [.fin []]), (rulB n r = false, AEx.ret, Z89 r n (lb false), [.fin
 []])]] (finK Tryz.prog [ResultVar.tmp 4] [] (AV.sv (lb (rulB n r)))) = (3 <= 9223372036854775807 -> Zio r n (li 0) (Ob.arr false 1 [[Cell.list (List.map syntaxC
 (Rules.literals r))], [Cell.list (List.map syntaxC (Rules.patterns r))], [Cell.list (List.map syntaxC (Rules.templates r))]]) = Z63 r n 0 /\ Zbr r n 3 (Z63 r n
 0) /\ LoopSem Tryz.prog (loopAt Tryz.f85 0) (Zbr r n) (Znl r n) /\ (rulB n r = true -> ObsEq [] [] /\ AV.sv (lb true) = AV.sv (lb (rulB n r))) /\ (rulB n r = false ->
 ObsEq [] [] /\ AV.sv (lb false) = AV.sv (lb (rulB n r))) /\ True) := by kernel_rfl
theorem Zbs (r : Rules) (n : Int)  : Zvr r n := by
  refine CallOK.ofRun wide (Zzm r n) Tryz.call85 Tryz.func85 rfl rfl rfl ?_
  with_reducible repeat' (first | apply And.intro | exact flatI | exact flatS | exact rowLens | (intro; skip) | apply obsN | apply obsC | apply obA | apply obM | apply obB | apply svA | apply tupA | apply lcA | apply lcS | apply svC | apply liC | apply lbC | apply lsC | apply vIc | apply vBc | apply vSc | apply vLc | apply mapC | apply hdI | apply mIc | apply mOc | apply mSc | apply mLc | apply Znn | apply Z10k | apply Znm | apply Ztb | apply Zjs | apply Zjt | apply Z5h)
  all_goals (try simp only [std] at *)
  all_goals (try (first | with_reducible apply Z5h | (simp only [<- List.map_append]; first | with_reducible apply Z5h)))
  all_goals (try (first | with_reducible rfl | omega | assumption | exact dT ‹_› | exact dF ‹_› | ((first | refine rowGet ?_ | refine getC ?_ rfl); (first | omega | (simp only [std]; omega) | grind)) | exact look_mI | exact look_mO | exact look_mO1 | exact look_mS | exact look_mL | exact upd_mI | exact upd_mO | exact del_mO | exact upd_mS | exact take_mL | (refine upd_mL ?_; grind) | (show (_ : St) = _; rfl) | grind [rulB, snocI, snocS, rowSnoc]))
  all_goals rfl
def bndX (x : Expander) (b : Binding) : Bool := !(decide (0 < (b.scopes.length : Int)) && decide (x.scope < b.scopes.getD ((b.scopes.length : Int) - 1).toNat 0)) && !(decide (b.kind = 3) && decide (x.vari < b.number)) && !(decide (b.kind = 4) && decide ((x.macros.length : Int) <= b.number))
def ruX (x : Expander) (r : Rules) : Bool := isRul r && rulB x.scope r
def isExp (x : Expander) : Bool := areB x.bindings && decide ((x.macros.length : Int) <= 200) && decide (0 <= x.scope /\ x.scope <= 99999) && decide (0 <= x.vari /\ x.vari <= 99999) && decide (0 <= x.steps /\ x.steps <= 200) && x.macros.all (ruX x) && x.bindings.all (bndX x)
theorem bndX_stop {x : Expander} {k : Nat} (hk : k < x.bindings.length) (h : bndX x (x.bindings.getD k default) = false) : x.bindings.all (bndX x) = false := by
  rw [List.all_eq_false]; exact ⟨_, getD_mem' hk, by rw [h]; decide⟩
theorem ruX_stop {x : Expander} {k : Nat} (hk : k < x.macros.length) (h : ruX x (x.macros.getD k default) = false) : x.macros.all (ruX x) = false := by
  rw [List.all_eq_false]; exact ⟨_, getD_mem' hk, by rw [h]; decide⟩
theorem bndX_go {x : Expander} {k : Nat} (hk : k < x.bindings.length) (h0 : (x.bindings.take k).all (bndX x) = true) (h : bndX x (x.bindings.getD k default) = true) : (x.bindings.take (k + 1)).all (bndX x) = true := by
  rw [take_get hk, List.all_append, h0]; simpa using h
theorem ruX_go {x : Expander} {k : Nat} (hk : k < x.macros.length) (h0 : (x.macros.take k).all (ruX x) = true) (h : ruX x (x.macros.getD k default) = true) : (x.macros.take (k + 1)).all (ruX x) = true := by
  rw [take_get hk, List.all_append, h0]; simpa using h
abbrev Ztc (x : Expander) : Prop := CallOK Tryz.prog 21 [] [expanderA x] [] (.sv (lb (isExp x)))
def Zce (x : Expander) (x0 : SV) : St := St.mk (regsOf 103 [(1, AV.sv (SV.one (AC.ptr 0 0))), (55, AV.sv (ll (List.map bindingC (Expander.bindings x)))), (56, AV.sv (li
 (↑(List.length (List.map bindingC (Expander.bindings x))) : Int))), (57, AV.sv x0)]) [Ob.box (vals (expanderF x))] 0 
def Z20 (x : Expander) (k : Nat) : St := Zce x (li (k : Int)) 
abbrev Z8a (x : Expander) : Nat -> St -> Prop := Head (Z20 x) (fun k => k <= List.length (Expander.bindings x) /\ List.length (Expander.bindings x) <= 9223372036854775807 /\
 List.all (List.take k (Expander.bindings x)) (bndX x) = true) fun k => List.length (Expander.bindings x) - k 
def Zem (x : Expander) : St := St.mk (regsOf 103 []) [] 0 
def Z6y (x : Expander) (x0 : SV) : St := St.mk (regsOf 103 [(2, AV.sv x0)]) [] 0 
def Zlj (x : Expander) : List (Prop × AEx × St) := [(List.all (Expander.bindings x) (bndX x) = true, AEx.exit 2, Zem x), (List.all (Expander.bindings x) (bndX x) =
 false, AEx.ret, Z6y x (lb false))]
def Zgf (x : Expander) (x0 : SV) : St := St.mk (regsOf 103 [(1, AV.sv (SV.one (AC.ptr 0 0))), (37, AV.sv (ll (List.map rulesC (Expander.macros x)))), (38, AV.sv (li
 (↑(List.length (List.map rulesC (Expander.macros x))) : Int))), (39, AV.sv x0)]) [Ob.box (vals (expanderF x))] 0 
def Z49 (x : Expander) (k : Nat) : St := Zgf x (li (k : Int)) 
abbrev Za1 (x : Expander) : Nat -> St -> Prop := Head (Z49 x) (fun k => k <= List.length (Expander.macros x) /\ List.length (Expander.macros x) <= 9223372036854775807 /\
 List.all (List.take k (Expander.macros x)) (ruX x) = true) fun k => List.length (Expander.macros x) - k 
def Zen (x : Expander) : St := St.mk (regsOf 103 [(1, AV.sv (SV.one (AC.ptr 0 0)))]) [Ob.box (vals (expanderF x))] 0 
def Z1r (x : Expander) (x0 : SV) : St := St.mk (regsOf 103 [(2, AV.sv x0)]) [] 0 
def Zlk (x : Expander) : List (Prop × AEx × St) := [(List.all (Expander.macros x) (ruX x) = true, AEx.exit 0, Zen x), (List.all (Expander.macros x) (ruX x) =
 false, AEx.ret, Z1r x (lb false))]

theorem Zll {x : Expander} {k : Nat} {x0 : SV} (h0 : x0 = (li (k : Int))) : Zce x x0 = Z20 x k := by
  rw [h0]
  rfl
theorem Zho {x : Expander} {x0 y0 : SV} (h0 : x0 = y0) : Z6y x x0 = Z6y x y0 := by rw [h0]
abbrev a3__sIsExpLb (x : Expander) (k : Nat) := (List.getD (Expander.bindings x) k default)
abbrev a1__sIsExpLb (x : Expander) (k : Nat) := (decide (Binding.kind (a3__sIsExpLb x k) = 4) = true -> List.length (List.map rulesC (Expander.macros x)) <= 9223372036854775807 ->
 (decide ((↑(List.length (List.map rulesC (Expander.macros x))) : Int) <= Binding.number (a3__sIsExpLb x k)) = true -> List.all (Expander.bindings x) (bndX x) = false /\ Z1r
 x (lb false) = Z6y x (lb false)) /\ (decide ((↑(List.length (List.map rulesC (Expander.macros x))) : Int) <= Binding.number (a3__sIsExpLb x k)) = false -> rng IntKind.i64
 ((k : Int) + 1) /\ List.length (Expander.bindings x) - (k + 1) < List.length (Expander.bindings x) - k /\ Zce x (li ((k : Int) + 1)) = Z20 x (k + 1) /\ Z8a
 x (List.length (Expander.bindings x) - (k + 1)) (Z20 x (k + 1))))
abbrev a2__sIsExpLb (x : Expander) (k : Nat) := (decide (Binding.kind (a3__sIsExpLb x k) = 4) = false -> false = false /\ rng IntKind.i64 ((k : Int) + 1) /\ List.length
 (Expander.bindings x) - (k + 1) < List.length (Expander.bindings x) - k /\ Zce x (li ((k : Int) + 1)) = Z20 x (k + 1) /\ Z8a x (List.length
 (Expander.bindings x) - (k + 1)) (Z20 x (k + 1)))
abbrev a4__sIsExpLb (x : Expander) (k : Nat) := [Orc.br [Orc.ghost (Ghost.sel [] [2]), Orc.out 1] [Orc.ghost (Ghost.sel [0] [1, 55, 56, 57]), Orc.goto (List.length
 (Expander.bindings x) - (k + 1)) (Z20 x (k + 1))]]
abbrev a5__sIsExpLb (x : Expander) (k : Nat) := [Orc.bool false, Orc.ghost (Ghost.sel [0] [1, 55, 56, 57]), Orc.goto (List.length (Expander.bindings x) - (k + 1)) (Z20 x (k
 + 1))]
abbrev a6__sIsExpLb (x : Expander) (k : Nat) := (↑(List.length (List.map intC (Binding.scopes (a3__sIsExpLb x k)))) : Int)
abbrev a7__sIsExpLb (x : Expander) (k : Nat) := (decide (Binding.kind (a3__sIsExpLb x k) = 3) = true -> (decide (Expander.vari x < Binding.number (a3__sIsExpLb x k)) = true -> true =
 true /\ List.all (Expander.bindings x) (bndX x) = false /\ Z1r x (lb false) = Z6y x (lb false)) /\ (decide (Expander.vari x < Binding.number (a3__sIsExpLb x k)) =
 false -> (a1__sIsExpLb x k) /\ (a2__sIsExpLb x k)))
theorem Zuk (x : Expander) (k : Nat) : aexec Tryz.prog (loopAt Tryz.f21 1) (Z20 x k) [.br [.cells (bindingF (a3__sIsExpLb x k)), .draw [], .br
 [.cells (intC (List.getD (Binding.scopes (a3__sIsExpLb x k)) (Int.toNat ((a6__sIsExpLb x k) - 1)) default)), .br [.bool true, .bool true, .ghost (.sel [] [2]),
 .out 1] [.br [.br [.bool true, .ghost (.sel [] [2]), .out 1] [.br (a4__sIsExpLb x k) (a5__sIsExpLb x k)]] [.bool false, .br (a4__sIsExpLb x k)
 (a5__sIsExpLb x k)]]] [.bool false, .br [.br [.bool true, .ghost (.sel [] [2]), .out 1] [.br (a4__sIsExpLb x k) (a5__sIsExpLb x k)]] [.bool false,
 .br (a4__sIsExpLb x k) (a5__sIsExpLb x k)]]] [.ghost (.sel [] []), .out 0]] (loopK (Z8a x) (Zlj x) (List.length (Expander.bindings x) - k)) =
 ((decide ((k : Int) < (↑(List.length (List.map bindingC (Expander.bindings x))) : Int)) = true -> (0 <= (k : Int) /\ (List.map bindingC (Expander.bindings x))[Int.toNat (↑k :
 Int)]? = some (bindingF (a3__sIsExpLb x k))) /\ (List.length (List.map intC (Binding.scopes (a3__sIsExpLb x k))) <= 9223372036854775807 -> (decide (0 < (a6__sIsExpLb x k)) = true ->
 rng .i64 ((a6__sIsExpLb x k) - 1) /\ (0 <= (a6__sIsExpLb x k) - 1 /\ (List.map intC (Binding.scopes (a3__sIsExpLb x k)))[Int.toNat ((a6__sIsExpLb x k) - 1)]? = some [cI
 (List.getD (Binding.scopes (a3__sIsExpLb x k)) (Int.toNat ((a6__sIsExpLb x k) - 1)) 0)]) /\ (decide (Expander.scope x < List.getD (Binding.scopes (a3__sIsExpLb x k)) (Int.toNat
 ((a6__sIsExpLb x k) - 1)) 0) = true -> true = true /\ true = true /\ List.all (Expander.bindings x) (bndX x) = false /\ Z1r x (lb false) = Z6y x (lb false)) /\
 (decide (Expander.scope x < List.getD (Binding.scopes (a3__sIsExpLb x k)) (Int.toNat ((a6__sIsExpLb x k) - 1)) 0) = false -> (a7__sIsExpLb x k) /\ (decide (Binding.kind
 (a3__sIsExpLb x k) = 3) = false -> false = false /\ (a1__sIsExpLb x k) /\ (a2__sIsExpLb x k)))) /\ (decide (0 < (a6__sIsExpLb x k)) = false -> false = false /\ (a7__sIsExpLb x k) /\
 (decide (Binding.kind (a3__sIsExpLb x k) = 3) = false -> false = false /\ (a1__sIsExpLb x k) /\ (a2__sIsExpLb x k))))) /\ (decide ((k : Int) < (↑(List.length (List.map bindingC
 (Expander.bindings x))) : Int)) = false -> List.all (Expander.bindings x) (bndX x) = true /\ Zem x = Zem x)) := by kernel_rfl

theorem Zlm {x : Expander} {k : Nat} {x0 : SV} (h0 : x0 = (li (k : Int))) : Zgf x x0 = Z49 x k := by
  rw [h0]
  rfl
theorem Zhp {x : Expander} {x0 y0 : SV} (h0 : x0 = y0) : Z1r x x0 = Z1r x y0 := by rw [h0]
abbrev Z16 (x : Expander) (k : Nat) := (List.getD (Expander.macros x) k default)
theorem Zul (x : Expander) (k : Nat) : aexec Tryz.prog (loopAt Tryz.f21 0) (Z49 x k) [.br [.cells (rulesF (Z16 x k)), .call [Mode.rd] []
 (AV.sv (lb (isRul (Z16 x k)))), .br [.bool true, .ghost (.sel [] [2]), .out 1] [.call [Mode.rd, Mode.rd] [] (AV.sv (lb (rulB (Expander.scope x)
 (Z16 x k)))), .br [.ghost (.sel [] [2]), .out 1] [.ghost (.sel [0] [1, 37, 38, 39]), .goto (List.length (Expander.macros x) - (k + 1))
 (Z49 x (k + 1))]]] [.ghost (.sel [0] [1]), .out 0]] (loopK (Za1 x) (Zlk x) (List.length (Expander.macros x) - k)) = ((decide ((k : Int) <
 (↑(List.length (List.map rulesC (Expander.macros x))) : Int)) = true -> (0 <= (k : Int) /\ (List.map rulesC (Expander.macros x))[Int.toNat (k : Int)]? = some (rulesF (Z16
 x k))) /\ Zpm (Z16 x k) /\ ((!isRul (Z16 x k)) = true -> true = true /\ List.all (Expander.macros x) (ruX x) = false /\ Z1r x (lb false) =
 Z1r x (lb false)) /\ ((!isRul (Z16 x k)) = false -> Zvr (Z16 x k) (Expander.scope x) /\ ((!rulB (Expander.scope x) (Z16 x k)) = true ->
 List.all (Expander.macros x) (ruX x) = false /\ Z1r x (lb false) = Z1r x (lb false)) /\ ((!rulB (Expander.scope x) (Z16 x k)) = false -> rng .i64
 ((k : Int) + 1) /\ List.length (Expander.macros x) - (k + 1) < List.length (Expander.macros x) - k /\ Zgf x (li ((k : Int) + 1)) = Z49 x (k + 1) /\ Za1 x
 (List.length (Expander.macros x) - (k + 1)) (Z49 x (k + 1))))) /\ (decide ((k : Int) < (↑(List.length (List.map rulesC (Expander.macros x))) : Int)) = false -> List.all
 (Expander.macros x) (ruX x) = true /\ Zen x = Zen x)) := by kernel_rfl
theorem Zqy (x : Expander) (h : wX x <= 1048576)  : LoopSem Tryz.prog (loopAt Tryz.f21 1) (Z8a x) (Zlj x) := by
  refine LoopSem.ofHead wide fun k h => ⟨_, _, Zuk x k, ?_⟩
  try delta a3__sIsExpLb a1__sIsExpLb a2__sIsExpLb a4__sIsExpLb a5__sIsExpLb a6__sIsExpLb a7__sIsExpLb
  have g1 := wX_eq x
  have g2 := @sumBy_mem _ wB x.bindings (x.bindings.getD k default)
  have g3 := @bndX_stop x k
  have g4 := @bndX_go x k
  have g5 : bndX x (x.bindings.getD k default) = (!(decide (0 < ((x.bindings.getD k default).scopes.length : Int)) && decide (x.scope < (x.bindings.getD k default).scopes.getD (((x.bindings.getD k default).scopes.length : Int) - 1).toNat 0)) && !(decide ((x.bindings.getD k default).kind = 3) && decide (x.vari < (x.bindings.getD k default).number)) && !(decide ((x.bindings.getD k default).kind = 4) && decide ((x.macros.length : Int) <= (x.bindings.getD k default).number))) := rfl
  have g6 : x.bindings.length <= k -> x.bindings.take k = x.bindings := fun h => List.take_of_length_le h
  have g7 := wB_eq (x.bindings.getD k default)
  with_reducible repeat' (first | apply And.intro | exact flatI | exact flatS | exact rowLens | (intro; skip) | apply obsN | apply obsC | apply obA | apply obM | apply obB | apply svA | apply tupA | apply lcA | apply lcS | apply svC | apply liC | apply lbC | apply lsC | apply vIc | apply vBc | apply vSc | apply vLc | apply mapC | apply hdI | apply mIc | apply mOc | apply mSc | apply mLc | apply Zlm | apply Zll | apply Zho | apply Zhp | apply Zef | apply Z2 | apply Z5w | apply Zbs)
  all_goals (try simp only [std] at *)
  all_goals (try (first | with_reducible apply Zef | with_reducible apply Z2 | with_reducible apply Z5w | with_reducible apply Zbs | (simp only [<- List.map_append]; first | with_reducible apply Zef | with_reducible apply Z2 | with_reducible apply Z5w | with_reducible apply Zbs)))
  all_goals (try (first | with_reducible rfl | omega | assumption | exact dT ‹_› | exact dF ‹_› | ((first | refine rowGet ?_ | refine getC ?_ rfl); (first | omega | (simp only [std]; omega) | grind)) | exact look_mI | exact look_mO | exact look_mO1 | exact look_mS | exact look_mL | exact upd_mI | exact upd_mO | exact del_mO | exact upd_mS | exact take_mL | (refine upd_mL ?_; grind) | (show (_ : St) = _; rfl) | grind [getD_mem', snocI, snocS, rowSnoc]))
theorem Zzn (x : Expander) (h : wX x <= 1048576)  : LoopSem Tryz.prog (loopAt Tryz.f21 0) (Za1 x) (Zlk x) := by
  refine LoopSem.ofHead wide fun k h => ⟨_, _, Zul x k, ?_⟩
  try delta Z16
  have g1 := wX_eq x
  have g2 := @sumBy_mem _ wR x.macros (x.macros.getD k default)
  have g3 := @ruX_stop x k
  have g4 := @ruX_go x k
  have g5 : ruX x (x.macros.getD k default) = (isRul (x.macros.getD k default) && rulB x.scope (x.macros.getD k default)) := rfl
  have g6 : x.macros.length <= k -> x.macros.take k = x.macros := fun h => List.take_of_length_le h
  with_reducible repeat' (first | apply And.intro | exact flatI | exact flatS | exact rowLens | (intro; skip) | apply obsN | apply obsC | apply obA | apply obM | apply obB | apply svA | apply tupA | apply lcA | apply lcS | apply svC | apply liC | apply lbC | apply lsC | apply vIc | apply vBc | apply vSc | apply vLc | apply mapC | apply hdI | apply mIc | apply mOc | apply mSc | apply mLc | apply Zlm | apply Zll | apply Zqy | apply Zho | apply Zhp | apply Zef | apply Z2 | apply Z5w | apply Zbs)
  all_goals (try simp only [std] at *)
  all_goals (try (first | with_reducible apply Zef | with_reducible apply Z2 | with_reducible apply Z5w | with_reducible apply Zbs | (simp only [<- List.map_append]; first | with_reducible apply Zef | with_reducible apply Z2 | with_reducible apply Z5w | with_reducible apply Zbs)))
  all_goals (try (first | with_reducible rfl | omega | assumption | exact dT ‹_› | exact dF ‹_› | ((first | refine rowGet ?_ | refine getC ?_ rfl); (first | omega | (simp only [std]; omega) | grind)) | exact look_mI | exact look_mO | exact look_mO1 | exact look_mS | exact look_mL | exact upd_mI | exact upd_mO | exact del_mO | exact upd_mS | exact take_mL | (refine upd_mL ?_; grind) | (show (_ : St) = _; rfl) | grind [getD_mem', snocI, snocS, rowSnoc]))
theorem Zy2 (x : Expander) : aexec Tryz.prog (Tryz.f21.body.getD .skip) (entry [] [expanderA x] 103) [.call [Mode.rd] [] (AV.sv (lb (areB
 (Expander.bindings x)))), .br [.bool true, .bool true, .bool true, .bool true, .fin []] [.br [.bool true, .bool true, .bool true, .fin []]
 [.call [Mode.rd, Mode.rd, Mode.rd] [] (AV.sv (lb (decide (0 <= Expander.scope x /\ Expander.scope x <= 99999)))), .br [.bool true, .bool true, .fin []] [.call
 [Mode.rd, Mode.rd, Mode.rd] [] (AV.sv (lb (decide (0 <= Expander.vari x /\ Expander.vari x <= 99999)))), .br [.bool true, .fin []] [.call [Mode.rd, Mode.rd, Mode.rd] []
 (AV.sv (lb (decide (0 <= Expander.steps x /\ Expander.steps x <= 200)))), .br [.fin []] [.ghost (.sel [0] [1, 37, 38, 39]), .loop (List.length (Expander.macros x) -
 0) (Z49 x 0) (Za1 x) [(List.all (Expander.macros x) (ruX x) = true, AEx.exit 0, Zen x, [.ghost (.sel [0] [1, 55, 56, 57]), .loop (List.length
 (Expander.bindings x) - 0) (Z20 x 0) (Z8a x) [(List.all (Expander.bindings x) (bndX x) = true, AEx.exit 2, Zem x, [.fin []]), (List.all
 (Expander.bindings x) (bndX x) = false, AEx.ret, Z6y x (lb false), [.fin []])]]), (List.all (Expander.macros x) (ruX x) = false, AEx.ret, Z1r x (lb false),
 [.fin []])]]]]]]] (finK Tryz.prog [ResultVar.tmp 2] [] (AV.sv (lb (isExp x)))) = (Zxx (Expander.bindings x) /\ ((!areB (Expander.bindings x)) = true -> true = true /\ true =
 true /\ true = true /\ true = true /\ ObsEq [] [] /\ AV.sv (lb false) = AV.sv (lb (isExp x))) /\ ((!areB (Expander.bindings x)) = false -> List.length (List.map rulesC (Expander.macros
 x)) <= 9223372036854775807 -> (decide (200 < (↑(List.length (List.map rulesC (Expander.macros x))) : Int)) = true -> true = true /\ true = true /\ true = true /\ ObsEq [] [] /\ AV.sv (lb
 false) = AV.sv (lb (isExp x))) /\ (decide (200 < (↑(List.length (List.map rulesC (Expander.macros x))) : Int)) = false -> Z3o (Expander.scope x) 0 99999 /\ ((!decide (0 <=
 Expander.scope x /\ Expander.scope x <= 99999)) = true -> true = true /\ true = true /\ ObsEq [] [] /\ AV.sv (lb false) = AV.sv (lb (isExp x))) /\ ((!decide (0 <= Expander.scope x /\
 Expander.scope x <= 99999)) = false -> Z3o (Expander.vari x) 0 99999 /\ ((!decide (0 <= Expander.vari x /\ Expander.vari x <= 99999)) = true -> true = true /\ ObsEq [] [] /\ AV.sv (lb
 false) = AV.sv (lb (isExp x))) /\ ((!decide (0 <= Expander.vari x /\ Expander.vari x <= 99999)) = false -> Z3o (Expander.steps x) 0 200 /\ ((!decide (0 <= Expander.steps x /\
 Expander.steps x <= 200)) = true -> ObsEq [] [] /\ AV.sv (lb false) = AV.sv (lb (isExp x))) /\ ((!decide (0 <= Expander.steps x /\ Expander.steps x <= 200)) = false -> List.length
 (List.map rulesC (Expander.macros x)) <= 9223372036854775807 -> Zgf x (li 0) = Z49 x 0 /\ Za1 x (List.length (Expander.macros x) - 0) (Z49 x 0) /\
 LoopSem Tryz.prog (loopAt Tryz.f21 0) (Za1 x) (Zlk x) /\ (List.all (Expander.macros x) (ruX x) = true -> List.length (List.map bindingC (Expander.bindings x)) <=
 9223372036854775807 -> Zce x (li 0) = Z20 x 0 /\ Z8a x (List.length (Expander.bindings x) - 0) (Z20 x 0) /\ LoopSem Tryz.prog (loopAt Tryz.f21 1)
 (Z8a x) (Zlj x) /\ (List.all (Expander.bindings x) (bndX x) = true -> ObsEq [] [] /\ AV.sv (lb true) = AV.sv (lb (isExp x))) /\ (List.all (Expander.bindings x) (bndX
 x) = false -> ObsEq [] [] /\ AV.sv (lb false) = AV.sv (lb (isExp x))) /\ True) /\ (List.all (Expander.macros x) (ruX x) = false -> ObsEq [] [] /\ AV.sv (lb false) = AV.sv (lb (isExp
 x))) /\ True)))))) := by kernel_rfl
theorem Zrp (x : Expander) (h : wX x <= 1048576)  : Ztc x := by
  refine CallOK.ofRun wide (Zy2 x) Tryz.call21 Tryz.func21 rfl rfl rfl ?_
  with_reducible repeat' (first | apply And.intro | exact flatI | exact flatS | exact rowLens | (intro; skip) | apply obsN | apply obsC | apply obA | apply obM | apply obB | apply svA | apply tupA | apply lcA | apply lcS | apply svC | apply liC | apply lbC | apply lsC | apply vIc | apply vBc | apply vSc | apply vLc | apply mapC | apply hdI | apply mIc | apply mOc | apply mSc | apply mLc | apply Zlm | apply Zzn | apply Zll | apply Zqy | apply Zho | apply Zhp | apply Zef | apply Z2 | apply Z5w | apply Zbs)
  all_goals (try simp only [std] at *)
  all_goals (try (first | with_reducible apply Zef | with_reducible apply Z2 | with_reducible apply Z5w | with_reducible apply Zbs | (simp only [<- List.map_append]; first | with_reducible apply Zef | with_reducible apply Z2 | with_reducible apply Z5w | with_reducible apply Zbs)))
  all_goals (try (first | with_reducible rfl | omega | assumption | exact dT ‹_› | exact dF ‹_› | ((first | refine rowGet ?_ | refine getC ?_ rfl); (first | omega | (simp only [std]; omega) | grind)) | exact look_mI | exact look_mO | exact look_mO1 | exact look_mS | exact look_mL | exact upd_mI | exact upd_mO | exact del_mO | exact upd_mS | exact take_mL | (refine upd_mL ?_; grind) | (show (_ : St) = _; rfl) | grind [isExp, snocI, snocS, rowSnoc]))
abbrev Ztd (x : Expander) : Prop := CallOK Tryz.prog 23 [] [expanderA x] [] (.sv (lb (isExp x)))
def Za2 (x : Expander) (x0 : SV) : St := St.mk (regsOf 115 [(1, AV.sv (SV.one (AC.ptr 0 0))), (66, AV.sv (ll (List.map bindingC (Expander.bindings x)))), (67, AV.sv (li
 (↑(List.length (List.map bindingC (Expander.bindings x))) : Int))), (68, AV.sv x0)]) [Ob.box (vals (expanderF x))] 0 
def Zx (x : Expander) (k : Nat) : St := Za2 x (li (k : Int)) 
abbrev Z64 (x : Expander) : Nat -> St -> Prop := Head (Zx x) (fun k => k <= List.length (Expander.bindings x) /\ List.length (Expander.bindings x) <= 9223372036854775807 /\
 List.all (List.take k (Expander.bindings x)) (bndX x) = true) fun k => List.length (Expander.bindings x) - k 
def Zeo (x : Expander) : St := St.mk (regsOf 115 []) [] 0 
def Z4o (x : Expander) (x0 : SV) : St := St.mk (regsOf 115 [(2, AV.sv x0)]) [] 0 
def Zln (x : Expander) : List (Prop × AEx × St) := [(List.all (Expander.bindings x) (bndX x) = true, AEx.exit 2, Zeo x), (List.all (Expander.bindings x) (bndX x) =
 false, AEx.ret, Z4o x (lb false))]
def Zgg (x : Expander) (x0 : SV) : St := St.mk (regsOf 115 [(1, AV.sv (SV.one (AC.ptr 0 0))), (48, AV.sv (ll (List.map rulesC (Expander.macros x)))), (49, AV.sv (li
 (↑(List.length (List.map rulesC (Expander.macros x))) : Int))), (50, AV.sv x0)]) [Ob.box (vals (expanderF x))] 0 
def Z4a (x : Expander) (k : Nat) : St := Zgg x (li (k : Int)) 
abbrev Za3 (x : Expander) : Nat -> St -> Prop := Head (Z4a x) (fun k => k <= List.length (Expander.macros x) /\ List.length (Expander.macros x) <= 9223372036854775807 /\
 List.all (List.take k (Expander.macros x)) (ruX x) = true) fun k => List.length (Expander.macros x) - k 
def Zep (x : Expander) : St := St.mk (regsOf 115 [(1, AV.sv (SV.one (AC.ptr 0 0)))]) [Ob.box (vals (expanderF x))] 0 
def Z17 (x : Expander) (x0 : SV) : St := St.mk (regsOf 115 [(2, AV.sv x0)]) [] 0 
def Zlo (x : Expander) : List (Prop × AEx × St) := [(List.all (Expander.macros x) (ruX x) = true, AEx.exit 0, Zep x), (List.all (Expander.macros x) (ruX x) =
 false, AEx.ret, Z17 x (lb false))]

theorem Zlp {x : Expander} {k : Nat} {x0 : SV} (h0 : x0 = (li (k : Int))) : Za2 x x0 = Zx x k := by
  rw [h0]
  rfl
theorem Zhq {x : Expander} {x0 y0 : SV} (h0 : x0 = y0) : Z4o x x0 = Z4o x y0 := by rw [h0]
abbrev a1__iIsExpLb (x : Expander) (k : Nat) := (List.getD (Expander.bindings x) k default)
abbrev a2__iIsExpLb (x : Expander) (k : Nat) := (decide ((↑(List.length (List.map rulesC (Expander.macros x))) : Int) <= Binding.number (a1__iIsExpLb x k)) = false -> rng IntKind.i64
 ((k : Int) + 1) /\ List.length (Expander.bindings x) - (k + 1) < List.length (Expander.bindings x) - k /\ Za2 x (li ((k : Int) + 1)) = Zx x (k + 1) /\ Z64
 x (List.length (Expander.bindings x) - (k + 1)) (Zx x (k + 1)))
abbrev a3__iIsExpLb (x : Expander) (k : Nat) := (List.map intC (Binding.scopes (a1__iIsExpLb x k)))
abbrev a4__iIsExpLb (x : Expander) (k : Nat) := [Orc.br [Orc.ghost (Ghost.sel [] [2]), Orc.out 1] [Orc.ghost (Ghost.sel [0] [1, 66, 67, 68]), Orc.goto (List.length
 (Expander.bindings x) - (k + 1)) (Zx x (k + 1))]]
abbrev a5__iIsExpLb (x : Expander) (k : Nat) := (decide ((↑(List.length (List.map rulesC (Expander.macros x))) : Int) <= Binding.number (a1__iIsExpLb x k)) = true -> List.all
 (Expander.bindings x) (bndX x) = false /\ Z17 x (lb false) = Z4o x (lb false))
abbrev a6__iIsExpLb (x : Expander) (k : Nat) := [Orc.bool false, Orc.ghost (Ghost.sel [0] [1, 66, 67, 68]), Orc.goto (List.length (Expander.bindings x) - (k + 1)) (Zx x (k
 + 1))]
abbrev a7__iIsExpLb (x : Expander) (k : Nat) := (decide (Binding.kind (a1__iIsExpLb x k) = 4) = false -> List.length (a3__iIsExpLb x k) <= 9223372036854775807 -> List.length
 (a3__iIsExpLb x k) <= 9223372036854775807 -> false = false /\ rng IntKind.i64 ((k : Int) + 1) /\ List.length (Expander.bindings x) - (k + 1) < List.length (Expander.bindings x) - k /\
 Za2 x (li ((k : Int) + 1)) = Zx x (k + 1) /\ Z64 x (List.length (Expander.bindings x) - (k + 1)) (Zx x (k + 1)))
abbrev a8__iIsExpLb (x : Expander) (k : Nat) := (decide (Binding.kind (a1__iIsExpLb x k) = 4) = false -> List.length (a3__iIsExpLb x k) <= 9223372036854775807 -> false = false /\ rng
 IntKind.i64 ((k : Int) + 1) /\ List.length (Expander.bindings x) - (k + 1) < List.length (Expander.bindings x) - k /\ Za2 x (li ((k : Int) + 1)) = Zx x (k + 1) /\
 Z64 x (List.length (Expander.bindings x) - (k + 1)) (Zx x (k + 1)))
abbrev a9__iIsExpLb (x : Expander) (k : Nat) := (decide (Binding.kind (a1__iIsExpLb x k) = 4) = true -> List.length (a3__iIsExpLb x k) <= 9223372036854775807 -> List.length
 (a3__iIsExpLb x k) <= 9223372036854775807 -> List.length (List.map rulesC (Expander.macros x)) <= 9223372036854775807 -> (a5__iIsExpLb x k) /\ (a2__iIsExpLb x k))
abbrev a10__iIsExpLb (x : Expander) (k : Nat) := (decide (Binding.kind (a1__iIsExpLb x k) = 4) = true -> List.length (a3__iIsExpLb x k) <= 9223372036854775807 -> List.length (List.map
 rulesC (Expander.macros x)) <= 9223372036854775807 -> (a5__iIsExpLb x k) /\ (a2__iIsExpLb x k))
theorem Zum (x : Expander) (k : Nat) : aexec Tryz.prog (loopAt Tryz.f23 1) (Zx x k) [.br [.cells (bindingF (a1__iIsExpLb x k)), .draw [], .br
 [.cells (intC (List.getD (Binding.scopes (a1__iIsExpLb x k)) (Int.toNat ((↑(List.length (a3__iIsExpLb x k)) : Int) - 1)) default)), .br [.bool true, .bool true,
 .ghost (.sel [] [2]), .out 1] [.br [.br [.bool true, .ghost (.sel [] [2]), .out 1] [.br (a4__iIsExpLb x k) (a6__iIsExpLb x k)]] [.bool false,
 .br (a4__iIsExpLb x k) (a6__iIsExpLb x k)]]] [.bool false, .br [.br [.bool true, .ghost (.sel [] [2]), .out 1] [.br (a4__iIsExpLb x k) (a6__iIsExpLb x
 k)]] [.bool false, .br (a4__iIsExpLb x k) (a6__iIsExpLb x k)]]] [.ghost (.sel [] []), .out 0]] (loopK (Z64 x) (Zln x) (List.length
 (Expander.bindings x) - k)) = ((decide ((k : Int) < (↑(List.length (List.map bindingC (Expander.bindings x))) : Int)) = true -> (0 <= (k : Int) /\ (List.map bindingC
 (Expander.bindings x))[Int.toNat (k : Int)]? = some (bindingF (a1__iIsExpLb x k))) /\ (decide (0 < (↑(List.length (a3__iIsExpLb x k)) : Int)) = true -> rng .i64
 ((↑(List.length (a3__iIsExpLb x k)) : Int) - 1) /\ (0 <= (↑(List.length (a3__iIsExpLb x k)) : Int) - 1 /\ (a3__iIsExpLb x k)[Int.toNat ((↑(List.length (a3__iIsExpLb x k)) : Int) -
 1)]? = some [cI (List.getD (Binding.scopes (a1__iIsExpLb x k)) (Int.toNat ((↑(List.length (a3__iIsExpLb x k)) : Int) - 1)) 0)]) /\ (decide (Expander.scope x < List.getD
 (Binding.scopes (a1__iIsExpLb x k)) (Int.toNat ((↑(List.length (a3__iIsExpLb x k)) : Int) - 1)) 0) = true -> true = true /\ (List.length (a3__iIsExpLb x k) <= 9223372036854775807 ->
 List.length (a3__iIsExpLb x k) <= 9223372036854775807 -> true = true /\ List.all (Expander.bindings x) (bndX x) = false /\ Z17 x (lb false) = Z4o x (lb false))) /\
 (decide (Expander.scope x < List.getD (Binding.scopes (a1__iIsExpLb x k)) (Int.toNat ((↑(List.length (a3__iIsExpLb x k)) : Int) - 1)) 0) = false -> (decide (Binding.kind
 (a1__iIsExpLb x k) = 3) = true -> (decide (Expander.vari x < Binding.number (a1__iIsExpLb x k)) = true -> List.length (a3__iIsExpLb x k) <= 9223372036854775807 -> List.length
 (a3__iIsExpLb x k) <= 9223372036854775807 -> true = true /\ List.all (Expander.bindings x) (bndX x) = false /\ Z17 x (lb false) = Z4o x (lb false)) /\ (decide
 (Expander.vari x < Binding.number (a1__iIsExpLb x k)) = false -> (a9__iIsExpLb x k) /\ (a7__iIsExpLb x k))) /\ (decide (Binding.kind (a1__iIsExpLb x k) = 3) = false -> false = false /\
 (a9__iIsExpLb x k) /\ (a7__iIsExpLb x k)))) /\ (decide (0 < (↑(List.length (a3__iIsExpLb x k)) : Int)) = false -> false = false /\ (decide (Binding.kind (a1__iIsExpLb x k) = 3) = true
 -> (decide (Expander.vari x < Binding.number (a1__iIsExpLb x k)) = true -> List.length (a3__iIsExpLb x k) <= 9223372036854775807 -> true = true /\ List.all (Expander.bindings x) (bndX
 x) = false /\ Z17 x (lb false) = Z4o x (lb false)) /\ (decide (Expander.vari x < Binding.number (a1__iIsExpLb x k)) = false -> (a10__iIsExpLb x k) /\ (a8__iIsExpLb x
 k))) /\ (decide (Binding.kind (a1__iIsExpLb x k) = 3) = false -> false = false /\ (a10__iIsExpLb x k) /\ (a8__iIsExpLb x k)))) /\ (decide ((k : Int) < (↑(List.length (List.map
 bindingC (Expander.bindings x))) : Int)) = false -> List.all (Expander.bindings x) (bndX x) = true /\ Zeo x = Zeo x)) := by kernel_rfl

theorem Zlq {x : Expander} {k : Nat} {x0 : SV} (h0 : x0 = (li (k : Int))) : Zgg x x0 = Z4a x k := by
  rw [h0]
  rfl
theorem Zhr {x : Expander} {x0 y0 : SV} (h0 : x0 = y0) : Z17 x x0 = Z17 x y0 := by rw [h0]
abbrev Z18 (x : Expander) (k : Nat) := (List.getD (Expander.macros x) k default)
theorem Zun (x : Expander) (k : Nat) : aexec Tryz.prog (loopAt Tryz.f23 0) (Z4a x k) [.br [.cells (rulesF (Z18 x k)), .call [Mode.rd] []
 (AV.sv (lb (isRul (Z18 x k)))), .br [.bool true, .ghost (.sel [] [2]), .out 1] [.call [Mode.rd, Mode.rd] [] (AV.sv (lb (rulB (Expander.scope x)
 (Z18 x k)))), .br [.ghost (.sel [] [2]), .out 1] [.ghost (.sel [0] [1, 48, 49, 50]), .goto (List.length (Expander.macros x) - (k + 1))
 (Z4a x (k + 1))]]] [.ghost (.sel [0] [1]), .out 0]] (loopK (Za3 x) (Zlo x) (List.length (Expander.macros x) - k)) = ((decide ((k : Int) <
 (↑(List.length (List.map rulesC (Expander.macros x))) : Int)) = true -> (0 <= (k : Int) /\ (List.map rulesC (Expander.macros x))[Int.toNat (k : Int)]? = some (rulesF (Z18
 x k))) /\ Zpn (Z18 x k) /\ ((!isRul (Z18 x k)) = true -> true = true /\ List.all (Expander.macros x) (ruX x) = false /\ Z17 x (lb false) =
 Z17 x (lb false)) /\ ((!isRul (Z18 x k)) = false -> Zvq (Z18 x k) (Expander.scope x) /\ ((!rulB (Expander.scope x) (Z18 x k)) = true ->
 List.all (Expander.macros x) (ruX x) = false /\ Z17 x (lb false) = Z17 x (lb false)) /\ ((!rulB (Expander.scope x) (Z18 x k)) = false -> rng .i64
 ((k : Int) + 1) /\ List.length (Expander.macros x) - (k + 1) < List.length (Expander.macros x) - k /\ Zgg x (li ((k : Int) + 1)) = Z4a x (k + 1) /\ Za3 x
 (List.length (Expander.macros x) - (k + 1)) (Z4a x (k + 1))))) /\ (decide ((k : Int) < (↑(List.length (List.map rulesC (Expander.macros x))) : Int)) = false -> List.all
 (Expander.macros x) (ruX x) = true /\ Zep x = Zep x)) := by kernel_rfl
theorem Zqz (x : Expander) (h : wX x <= 1048576)  : LoopSem Tryz.prog (loopAt Tryz.f23 1) (Z64 x) (Zln x) := by
  refine LoopSem.ofHead wide fun k h => ⟨_, _, Zum x k, ?_⟩
  try delta a1__iIsExpLb a2__iIsExpLb a3__iIsExpLb a4__iIsExpLb a5__iIsExpLb a6__iIsExpLb a7__iIsExpLb a8__iIsExpLb a9__iIsExpLb a10__iIsExpLb
  have g1 := wX_eq x
  have g2 := @sumBy_mem _ wB x.bindings (x.bindings.getD k default)
  have g3 := @bndX_stop x k
  have g4 := @bndX_go x k
  have g5 : bndX x (x.bindings.getD k default) = (!(decide (0 < ((x.bindings.getD k default).scopes.length : Int)) && decide (x.scope < (x.bindings.getD k default).scopes.getD (((x.bindings.getD k default).scopes.length : Int) - 1).toNat 0)) && !(decide ((x.bindings.getD k default).kind = 3) && decide (x.vari < (x.bindings.getD k default).number)) && !(decide ((x.bindings.getD k default).kind = 4) && decide ((x.macros.length : Int) <= (x.bindings.getD k default).number))) := rfl
  have g6 : x.bindings.length <= k -> x.bindings.take k = x.bindings := fun h => List.take_of_length_le h
  have g7 := wB_eq (x.bindings.getD k default)
  with_reducible repeat' (first | apply And.intro | exact flatI | exact flatS | exact rowLens | (intro; skip) | apply obsN | apply obsC | apply obA | apply obM | apply obB | apply svA | apply tupA | apply lcA | apply lcS | apply svC | apply liC | apply lbC | apply lsC | apply vIc | apply vBc | apply vSc | apply vLc | apply mapC | apply hdI | apply mIc | apply mOc | apply mSc | apply mLc | apply Zlq | apply Zlp | apply Zhq | apply Zhr | apply Zeh | apply Z2 | apply Z5x | apply Zbp)
  all_goals (try simp only [std] at *)
  all_goals (try (first | with_reducible apply Zeh | with_reducible apply Z2 | with_reducible apply Z5x | with_reducible apply Zbp | (simp only [<- List.map_append]; first | with_reducible apply Zeh | with_reducible apply Z2 | with_reducible apply Z5x | with_reducible apply Zbp)))
  all_goals (try (first | with_reducible rfl | omega | assumption | exact dT ‹_› | exact dF ‹_› | ((first | refine rowGet ?_ | refine getC ?_ rfl); (first | omega | (simp only [std]; omega) | grind)) | exact look_mI | exact look_mO | exact look_mO1 | exact look_mS | exact look_mL | exact upd_mI | exact upd_mO | exact del_mO | exact upd_mS | exact take_mL | (refine upd_mL ?_; grind) | (show (_ : St) = _; rfl) | grind [getD_mem', snocI, snocS, rowSnoc]))
theorem Zzo (x : Expander) (h : wX x <= 1048576)  : LoopSem Tryz.prog (loopAt Tryz.f23 0) (Za3 x) (Zlo x) := by
  refine LoopSem.ofHead wide fun k h => ⟨_, _, Zun x k, ?_⟩
  try delta Z18
  have g1 := wX_eq x
  have g2 := @sumBy_mem _ wR x.macros (x.macros.getD k default)
  have g3 := @ruX_stop x k
  have g4 := @ruX_go x k
  have g5 : ruX x (x.macros.getD k default) = (isRul (x.macros.getD k default) && rulB x.scope (x.macros.getD k default)) := rfl
  have g6 : x.macros.length <= k -> x.macros.take k = x.macros := fun h => List.take_of_length_le h
  with_reducible repeat' (first | apply And.intro | exact flatI | exact flatS | exact rowLens | (intro; skip) | apply obsN | apply obsC | apply obA | apply obM | apply obB | apply svA | apply tupA | apply lcA | apply lcS | apply svC | apply liC | apply lbC | apply lsC | apply vIc | apply vBc | apply vSc | apply vLc | apply mapC | apply hdI | apply mIc | apply mOc | apply mSc | apply mLc | apply Zlq | apply Zlp | apply Zqz | apply Zhq | apply Zhr | apply Zeh | apply Z2 | apply Z5x | apply Zbp)
  all_goals (try simp only [std] at *)
  all_goals (try (first | with_reducible apply Zeh | with_reducible apply Z2 | with_reducible apply Z5x | with_reducible apply Zbp | (simp only [<- List.map_append]; first | with_reducible apply Zeh | with_reducible apply Z2 | with_reducible apply Z5x | with_reducible apply Zbp)))
  all_goals (try (first | with_reducible rfl | omega | assumption | exact dT ‹_› | exact dF ‹_› | ((first | refine rowGet ?_ | refine getC ?_ rfl); (first | omega | (simp only [std]; omega) | grind)) | exact look_mI | exact look_mO | exact look_mO1 | exact look_mS | exact look_mL | exact upd_mI | exact upd_mO | exact del_mO | exact upd_mS | exact take_mL | (refine upd_mL ?_; grind) | (show (_ : St) = _; rfl) | grind [getD_mem', snocI, snocS, rowSnoc]))
theorem Zy3 (x : Expander) : aexec Tryz.prog (Tryz.f23.body.getD .skip) (entry [] [expanderA x] 115) [.call [Mode.rd] [] (AV.sv (lb (areB
 (Expander.bindings x)))), .br [.bool true, .bool true, .bool true, .bool true, .bool true, .bool true, .bool true, .fin []] [.br [.bool true,
 .bool true, .bool true, .bool true, .bool true, .bool true, .fin []] [.br [.bool true, .bool true, .bool true, .bool true, .bool true, .fin
 []] [.br [.bool true, .bool true, .bool true, .bool true, .fin []] [.br [.bool true, .bool true, .bool true, .fin []] [.br [.bool true,
 .bool true, .fin []] [.br [.bool true, .fin []] [.br [.fin []] [.ghost (.sel [0] [1, 48, 49, 50]), .loop (List.length (Expander.macros x) - 0)
 (Z4a x 0) (Za3 x) [(List.all (Expander.macros x) (ruX x) = true, AEx.exit 0, Zep x, [.ghost (.sel [0] [1, 66, 67, 68]), .loop (List.length
 (Expander.bindings x) - 0) (Zx x 0) (Z64 x) [(List.all (Expander.bindings x) (bndX x) = true, AEx.exit 2, Zeo x, [.fin []]), (List.all
 (Expander.bindings x) (bndX x) = false, AEx.ret, Z4o x (lb false), [.fin []])]]), (List.all (Expander.macros x) (ruX x) = false, AEx.ret, Z17 x (lb false),
 [.fin []])]]]]]]]]]] (finK Tryz.prog [ResultVar.tmp 2] [] (AV.sv (lb (isExp x)))) = (Zxz (Expander.bindings x) /\ ((!areB (Expander.bindings x)) = true -> true = true /\ true
 = true /\ true = true /\ true = true /\ true = true /\ true = true /\ true = true /\ ObsEq [] [] /\ AV.sv (lb false) = AV.sv (lb (isExp x))) /\ ((!areB (Expander.bindings x)) = false ->
 List.length (List.map rulesC (Expander.macros x)) <= 9223372036854775807 -> (decide (200 < (↑(List.length (List.map rulesC (Expander.macros x))) : Int)) = true -> true = true /\ true
 = true /\ true = true /\ true = true /\ true = true /\ true = true /\ ObsEq [] [] /\ AV.sv (lb false) = AV.sv (lb (isExp x))) /\ (decide (200 < (↑(List.length (List.map rulesC
 (Expander.macros x))) : Int)) = false -> (decide (Expander.scope x < 0) = true -> true = true /\ true = true /\ true = true /\ true = true /\ true = true /\ ObsEq [] [] /\ AV.sv (lb
 false) = AV.sv (lb (isExp x))) /\ (decide (Expander.scope x < 0) = false -> (decide (99999 < Expander.scope x) = true -> true = true /\ true = true /\ true = true /\ true = true /\ ObsEq
 [] [] /\ AV.sv (lb false) = AV.sv (lb (isExp x))) /\ (decide (99999 < Expander.scope x) = false -> (decide (Expander.vari x < 0) = true -> true = true /\ true = true /\ true = true /\
 ObsEq [] [] /\ AV.sv (lb false) = AV.sv (lb (isExp x))) /\ (decide (Expander.vari x < 0) = false -> (decide (99999 < Expander.vari x) = true -> true = true /\ true = true /\ ObsEq [] []
 /\ AV.sv (lb false) = AV.sv (lb (isExp x))) /\ (decide (99999 < Expander.vari x) = false -> (decide (Expander.steps x < 0) = true -> true = true /\ ObsEq [] [] /\ AV.sv (lb false) =
 AV.sv (lb (isExp x))) /\ (decide (Expander.steps x < 0) = false -> (decide (200 < Expander.steps x) = true -> ObsEq [] [] /\ AV.sv (lb false) = AV.sv (lb (isExp x))) /\ (decide (200 <
 Expander.steps x) = false -> List.length (List.map rulesC (Expander.macros x)) <= 9223372036854775807 -> Zgg x (li 0) = Z4a x 0 /\ Za3 x (List.length
 (Expander.macros x) - 0) (Z4a x 0) /\ LoopSem Tryz.prog (loopAt Tryz.f23 0) (Za3 x) (Zlo x) /\ (List.all (Expander.macros x) (ruX x) = true -> List.length
 (List.map bindingC (Expander.bindings x)) <= 9223372036854775807 -> Za2 x (li 0) = Zx x 0 /\ Z64 x (List.length (Expander.bindings x) - 0) (Zx x 0)
 /\ LoopSem Tryz.prog (loopAt Tryz.f23 1) (Z64 x) (Zln x) /\ (List.all (Expander.bindings x) (bndX x) = true -> ObsEq [] [] /\ AV.sv (lb true) = AV.sv (lb (isExp x))) /\
 (List.all (Expander.bindings x) (bndX x) = false -> ObsEq [] [] /\ AV.sv (lb false) = AV.sv (lb (isExp x))) /\ True) /\ (List.all (Expander.macros x) (ruX x) = false -> ObsEq [] [] /\
 AV.sv (lb false) = AV.sv (lb (isExp x))) /\ True))))))))) := by kernel_rfl
theorem Zrq (x : Expander) (h : wX x <= 1048576)  : Ztd x := by
  refine CallOK.ofRun wide (Zy3 x) Tryz.call23 Tryz.func23 rfl rfl rfl ?_
  with_reducible repeat' (first | apply And.intro | exact flatI | exact flatS | exact rowLens | (intro; skip) | apply obsN | apply obsC | apply obA | apply obM | apply obB | apply svA | apply tupA | apply lcA | apply lcS | apply svC | apply liC | apply lbC | apply lsC | apply vIc | apply vBc | apply vSc | apply vLc | apply mapC | apply hdI | apply mIc | apply mOc | apply mSc | apply mLc | apply Zlq | apply Zzo | apply Zlp | apply Zqz | apply Zhq | apply Zhr | apply Zeh | apply Z2 | apply Z5x | apply Zbp)
  all_goals (try simp only [std] at *)
  all_goals (try (first | with_reducible apply Zeh | with_reducible apply Z2 | with_reducible apply Z5x | with_reducible apply Zbp | (simp only [<- List.map_append]; first | with_reducible apply Zeh | with_reducible apply Z2 | with_reducible apply Z5x | with_reducible apply Zbp)))
  all_goals (try (first | with_reducible rfl | omega | assumption | exact dT ‹_› | exact dF ‹_› | ((first | refine rowGet ?_ | refine getC ?_ rfl); (first | omega | (simp only [std]; omega) | grind)) | exact look_mI | exact look_mO | exact look_mO1 | exact look_mS | exact look_mL | exact upd_mI | exact upd_mO | exact del_mO | exact upd_mS | exact take_mL | (refine upd_mL ?_; grind) | (show (_ : St) = _; rfl) | grind [isExp, snocI, snocS, rowSnoc]))
end Go.Proofs.YtegbadciefljcaaGreat
end
section
namespace Go.Proofs.YtegbadciefljcaaGreat
open Go Go.Proofs.YtegbadciefljcaaGreat.Ab
set_option linter.unusedVariables false
set_option linter.unusedSimpArgs false
set_option maxHeartbeats 4000000
abbrev Zbt (L : List Binding) : Prop := CallOK Tryz.prog 185 [] [ll (L.map bindingC)] [.arr true 4 (L.map bindingC)] (.sv (.one (.ref 0)))
def Zgh (L : List Binding) (x0 : SV) (x1 : Ob) : St := St.mk (regsOf 28 [(3, AV.sv (SV.one (AC.ref 0))), (7, AV.sv (ll (List.map bindingC L))), (8, AV.sv (li (↑(List.length
 (List.map bindingC L)) : Int))), (9, AV.sv x0)]) [x1] 0 
def Z4b (L : List Binding) (k : Nat) : St := Zgh L (li (k : Int)) (Ob.arr true 4 (List.map bindingC (List.take k L))) 
abbrev Za4 (L : List Binding) : Nat -> St -> Prop := Head (Z4b L) (fun k => k <= List.length L /\ List.length L <= 9223372036854775807) fun k => List.length L - k 
def Z8y (L : List Binding) (x0 : Ob) : St := St.mk (regsOf 28 [(3, AV.sv (SV.one (AC.ref 0)))]) [x0] 0 
def Zlr (L : List Binding) : List (Prop × AEx × St) := [(True, AEx.exit 0, Z8y L (Ob.arr true 4 (List.map bindingC L)))]

theorem Zr0 {L : List Binding} {k : Nat} {x0 : SV} {x1 : Ob} (h0 : x0 = (li (k : Int))) (h1 : x1 = (Ob.arr true 4 (List.map bindingC (List.take k L)))) : Zgh L x0
 x1 = Z4b L k := by
  rw [h0, h1]
  rfl
theorem Zod {L : List Binding} {x0 y0 : Ob} (h0 : x0 = y0) : Z8y L x0 = Z8y L y0 := by rw [h0]
theorem Zuo (L : List Binding) (k : Nat) : aexec Tryz.prog (loopAt Tryz.f185 0) (Z4b L k) [.br [.cells (bindingF (List.getD L k default)), .draw [(11,
 [2]), (12, [0, 10])], .call [Mode.rd] [Ob.arr true 1 (List.map intC (Binding.scopes (List.getD L k default)))] (AV.sv (SV.one (AC.ref 0))), .ghost (.sel [11] [3, 7, 8,
 9]), .goto (List.length L - (k + 1)) (Z4b L (k + 1))] [.ghost (.sel [0] [3]), .out 0]] (loopK (Za4 L) (Zlr L) (List.length L - k)) = ((decide
 ((k : Int) < (↑(List.length (List.map bindingC L)) : Int)) = true -> (0 <= (k : Int) /\ (List.map bindingC L)[Int.toNat (k : Int)]? = some (bindingF (List.getD L k default))) /\
 Zpd (Binding.scopes (List.getD L k default)) /\ (List.length (List.map bindingC (List.take k L)) + 1) * 56 <= 140737488355328 /\ rng .i64 ((k : Int) + 1) /\ List.length
 L - (k + 1) < List.length L - k /\ Zgh L (li ((k : Int) + 1)) (Ob.arr true 4 (List.map bindingC (List.take k L) ++ [bindingF (List.getD L k default)])) = Z4b L (k
 + 1) /\ Za4 L (List.length L - (k + 1)) (Z4b L (k + 1))) /\ (decide ((k : Int) < (↑(List.length (List.map bindingC L)) : Int)) = false -> True /\ Z8y L
 (Ob.arr true 4 (List.map bindingC (List.take k L))) = Z8y L (Ob.arr true 4 (List.map bindingC L)))) := by kernel_rfl
theorem Zzp (L : List Binding) (h : List.length L <= 1048577 /\ sumBy wB L <= 1048577)  : LoopSem Tryz.prog (loopAt Tryz.f185 0) (Za4 L) (Zlr L) := by
  refine LoopSem.ofHead wide fun k h => ⟨_, _, Zuo L k, ?_⟩
  have g2 := @sumBy_mem _ wB L (L.getD k default)
  have g3 := wB_eq (L.getD k default)
  with_reducible repeat' (first | apply And.intro | exact flatI | exact flatS | exact rowLens | (intro; skip) | apply obsN | apply obsC | apply obA | apply obM | apply obB | apply svA | apply tupA | apply lcA | apply lcS | apply svC | apply liC | apply lbC | apply lsC | apply vIc | apply vBc | apply vSc | apply vLc | apply mapC | apply hdI | apply Zr0 | apply Zod | apply Z73)
  all_goals (try simp only [std] at *)
  all_goals (try (first | with_reducible apply Z73 | (simp only [<- List.map_append]; first | with_reducible apply Z73)))
  all_goals (try (first | with_reducible rfl | omega | assumption | exact dT ‹_› | exact dF ‹_› | ((first | refine rowGet ?_ | refine getC ?_ rfl); (first | omega | (simp only [std]; omega) | grind)) | (show (_ : St) = _; rfl) | grind [take_get, snocI, snocS, rowSnoc, getD_mem']))
theorem Zy4 (L : List Binding) : aexec Tryz.prog (Tryz.f185.body.getD .skip) (entry [] [ll (List.map bindingC L)] 28) [.bool false, .ghost
 (.sel [0] [3, 7, 8, 9]), .loop (List.length L - 0) (Z4b L 0) (Za4 L) [(True, AEx.exit 0, Z8y L (Ob.arr true 4 (List.map bindingC L)), [.fin
 [0]])]] (finK Tryz.prog [ResultVar.tmp 2] [Ob.arr true 4 (List.map bindingC L)] (AV.sv (SV.one (AC.ref 0)))) = (List.length (List.map bindingC L) <= 9223372036854775807 ->
 Zgh L (li 0) (Ob.arr true 4 []) = Z4b L 0 /\ Za4 L (List.length L - 0) (Z4b L 0) /\ LoopSem Tryz.prog (loopAt Tryz.f185 0) (Za4 L)
 (Zlr L) /\ (True -> ObsEq [Ob.arr true 4 (List.map bindingC L)] [Ob.arr true 4 (List.map bindingC L)] /\ AV.sv (SV.one (AC.ref 0)) = AV.sv (SV.one (AC.ref 0))) /\ True) := by
 kernel_rfl
theorem Z5i (L : List Binding) (h : L.length <= 1048577 /\ sumBy wB L <= 1048577)  : Zbt L := by
  refine CallOK.ofRun wide (Zy4 L) Tryz.call185 Tryz.func185 rfl rfl rfl ?_
  with_reducible repeat' (first | apply And.intro | exact flatI | exact flatS | exact rowLens | (intro; skip) | apply obsN | apply obsC | apply obA | apply obM | apply obB | apply svA | apply tupA | apply lcA | apply lcS | apply svC | apply liC | apply lbC | apply lsC | apply vIc | apply vBc | apply vSc | apply vLc | apply mapC | apply hdI | apply Zr0 | apply Zzp | apply Zod | apply Z73)
  all_goals (try simp only [std] at *)
  all_goals (try (first | with_reducible apply Z73 | (simp only [<- List.map_append]; first | with_reducible apply Z73)))
  all_goals (try (first | with_reducible rfl | omega | assumption | exact dT ‹_› | exact dF ‹_› | ((first | refine rowGet ?_ | refine getC ?_ rfl); (first | omega | (simp only [std]; omega) | grind)) | (show (_ : St) = _; rfl) | grind [snocI, snocS, rowSnoc]))
abbrev Zr1 (b : Binding) : Prop := CallOK Tryz.prog 231 [] [bindingA b] (bindingO b) (.sv (bindingR b 0))
theorem Zwm (b : Binding) : aexec Tryz.prog (Tryz.f231.body.getD .skip) (entry [] [bindingA b] 8) [.call [Mode.rd] [Ob.arr true 1 (List.map intC
 (Binding.scopes b))] (AV.sv (SV.one (AC.ref 0))), .fin [2]] (finK Tryz.prog [ResultVar.cell 2 134] (bindingO b) (AV.sv (bindingR b 0))) = (Ze4 (Binding.scopes b) /\ ObsEq
 [Ob.arr true 1 (List.map intC (Binding.scopes b))] [Ob.arr true 1 (List.map intC (Binding.scopes b))] /\ AV.sv (SV.agg [vS (Binding.text b), AC.ref 0, vI (Binding.kind b), vI
 (Binding.number b)]) = AV.sv (SV.agg [vS (Binding.text b), AC.ref 0, vI (Binding.kind b), vI (Binding.number b)])) := by kernel_rfl
theorem Zdk (b : Binding) (h : wB b <= 1048577)  : Zr1 b := by
  refine CallOK.ofRun wide (Zwm b) Tryz.call231 Tryz.func231 rfl rfl rfl ?_
  have g3 := wB_eq b
  with_reducible repeat' (first | apply And.intro | exact flatI | exact flatS | exact rowLens | (intro; skip) | apply obsN | apply obsC | apply obA | apply obM | apply obB | apply svA | apply tupA | apply lcA | apply lcS | apply svC | apply liC | apply lbC | apply lsC | apply vIc | apply vBc | apply vSc | apply vLc | apply mapC | apply Z5e)
  all_goals (try simp only [std] at *)
  all_goals (try (first | with_reducible apply Z5e | (simp only [<- List.map_append]; first | with_reducible apply Z5e)))
  all_goals (try (first | with_reducible rfl | omega | assumption | exact dT ‹_› | exact dF ‹_› | ((first | refine rowGet ?_ | refine getC ?_ rfl); (first | omega | (simp only [std]; omega) | grind)) | (show (_ : St) = _; rfl) | grind [snocI, snocS, rowSnoc]))
abbrev Zte (L : List Binding) : Prop := CallOK Tryz.prog 188 [] [ll (L.map bindingC)] [.arr true 4 (L.map bindingC)] (.sv (.one (.ref 0)))
def Zgi (L : List Binding) (x0 : SV) (x1 : Ob) : St := St.mk (regsOf 19 [(3, AV.sv (SV.one (AC.ref 0))), (6, AV.sv (ll (List.map bindingC L))), (7, AV.sv (li (↑(List.length
 (List.map bindingC L)) : Int))), (8, AV.sv x0)]) [x1] 0 
def Z4c (L : List Binding) (k : Nat) : St := Zgi L (li (k : Int)) (Ob.arr true 4 (List.map bindingC (List.take k L))) 
abbrev Za5 (L : List Binding) : Nat -> St -> Prop := Head (Z4c L) (fun k => k <= List.length L /\ List.length L <= 9223372036854775807) fun k => List.length L - k 
def Z8z (L : List Binding) (x0 : Ob) : St := St.mk (regsOf 19 [(3, AV.sv (SV.one (AC.ref 0)))]) [x0] 0 
def Zls (L : List Binding) : List (Prop × AEx × St) := [(True, AEx.exit 0, Z8z L (Ob.arr true 4 (List.map bindingC L)))]

theorem Zr2 {L : List Binding} {k : Nat} {x0 : SV} {x1 : Ob} (h0 : x0 = (li (k : Int))) (h1 : x1 = (Ob.arr true 4 (List.map bindingC (List.take k L)))) : Zgi L x0
 x1 = Z4c L k := by
  rw [h0, h1]
  rfl
theorem Zoe {L : List Binding} {x0 y0 : Ob} (h0 : x0 = y0) : Z8z L x0 = Z8z L y0 := by rw [h0]
theorem Zup (L : List Binding) (k : Nat) : aexec Tryz.prog (loopAt Tryz.f188 0) (Z4c L k) [.br [.cells (bindingF (List.getD L k default)), .call
 [Mode.rd] (bindingO (List.getD L k default)) (AV.sv (bindingR (List.getD L k default) 0)), .ghost (.sel [4] [3, 6, 7, 8]), .goto (List.length L - (k + 1)) (Z4c
 L (k + 1))] [.ghost (.sel [0] [3]), .out 0]] (loopK (Za5 L) (Zls L) (List.length L - k)) = ((decide ((k : Int) < (↑(List.length (List.map bindingC L))
 : Int)) = true -> (0 <= (k : Int) /\ (List.map bindingC L)[Int.toNat (k : Int)]? = some (bindingF (List.getD L k default))) /\ Zr1 (List.getD L k default) /\ (List.length
 (List.map bindingC (List.take k L)) + 1) * 56 <= 140737488355328 /\ rng .i64 ((k : Int) + 1) /\ List.length L - (k + 1) < List.length L - k /\ Zgi L (li ((k : Int) +
 1)) (Ob.arr true 4 (List.map bindingC (List.take k L) ++ [bindingF (List.getD L k default)])) = Z4c L (k + 1) /\ Za5 L (List.length L - (k + 1)) (Z4c L (k +
 1))) /\ (decide ((k : Int) < (↑(List.length (List.map bindingC L)) : Int)) = false -> True /\ Z8z L (Ob.arr true 4 (List.map bindingC (List.take k L))) = Z8z L
 (Ob.arr true 4 (List.map bindingC L)))) := by kernel_rfl
theorem Zzq (L : List Binding) (h : List.length L <= 1048577 /\ sumBy wB L <= 1048577)  : LoopSem Tryz.prog (loopAt Tryz.f188 0) (Za5 L) (Zls L) := by
  refine LoopSem.ofHead wide fun k h => ⟨_, _, Zup L k, ?_⟩
  have g2 := @sumBy_mem _ wB L (L.getD k default)
  with_reducible repeat' (first | apply And.intro | exact flatI | exact flatS | exact rowLens | (intro; skip) | apply obsN | apply obsC | apply obA | apply obM | apply obB | apply svA | apply tupA | apply lcA | apply lcS | apply svC | apply liC | apply lbC | apply lsC | apply vIc | apply vBc | apply vSc | apply vLc | apply mapC | apply hdI | apply Zr2 | apply Zoe | apply Zdk)
  all_goals (try simp only [std] at *)
  all_goals (try (first | with_reducible apply Zdk | (simp only [<- List.map_append]; first | with_reducible apply Zdk)))
  all_goals (try (first | with_reducible rfl | omega | assumption | exact dT ‹_› | exact dF ‹_› | ((first | refine rowGet ?_ | refine getC ?_ rfl); (first | omega | (simp only [std]; omega) | grind)) | (show (_ : St) = _; rfl) | grind [take_get, snocI, snocS, rowSnoc, getD_mem']))
theorem Zy5 (L : List Binding) : aexec Tryz.prog (Tryz.f188.body.getD .skip) (entry [] [ll (List.map bindingC L)] 19) [.ghost (.nilreg 3 true 4),
 .ghost (.sel [0] [3, 6, 7, 8]), .loop (List.length L - 0) (Z4c L 0) (Za5 L) [(True, AEx.exit 0, Z8z L (Ob.arr true 4 (List.map bindingC L)),
 [.fin [0]])]] (finK Tryz.prog [ResultVar.tmp 2] [Ob.arr true 4 (List.map bindingC L)] (AV.sv (SV.one (AC.ref 0)))) = (List.length (List.map bindingC L) <= 9223372036854775807 ->
 Zgi L (li 0) (Ob.arr true 4 []) = Z4c L 0 /\ Za5 L (List.length L - 0) (Z4c L 0) /\ LoopSem Tryz.prog (loopAt Tryz.f188 0) (Za5 L)
 (Zls L) /\ (True -> ObsEq [Ob.arr true 4 (List.map bindingC L)] [Ob.arr true 4 (List.map bindingC L)] /\ AV.sv (SV.one (AC.ref 0)) = AV.sv (SV.one (AC.ref 0))) /\ True) := by
 kernel_rfl
theorem Zfi (L : List Binding) (h : L.length <= 1048577 /\ sumBy wB L <= 1048577)  : Zte L := by
  refine CallOK.ofRun wide (Zy5 L) Tryz.call188 Tryz.func188 rfl rfl rfl ?_
  with_reducible repeat' (first | apply And.intro | exact flatI | exact flatS | exact rowLens | (intro; skip) | apply obsN | apply obsC | apply obA | apply obM | apply obB | apply svA | apply tupA | apply lcA | apply lcS | apply svC | apply liC | apply lbC | apply lsC | apply vIc | apply vBc | apply vSc | apply vLc | apply mapC | apply hdI | apply Zr2 | apply Zzq | apply Zoe | apply Zdk)
  all_goals (try simp only [std] at *)
  all_goals (try (first | with_reducible apply Zdk | (simp only [<- List.map_append]; first | with_reducible apply Zdk)))
  all_goals (try (first | with_reducible rfl | omega | assumption | exact dT ‹_› | exact dF ‹_› | ((first | refine rowGet ?_ | refine getC ?_ rfl); (first | omega | (simp only [std]; omega) | grind)) | (show (_ : St) = _; rfl) | grind [snocI, snocS, rowSnoc]))
abbrev Zgj (L : List Syntax) : Prop := CallOK Tryz.prog 184 [] [ll (L.map syntaxC)] [.arr true 5 (L.map syntaxC)] (.sv (.one (.ref 0)))
def Zeq (L : List Syntax) (x0 : SV) (x1 : Ob) : St := St.mk (regsOf 19 [(3, AV.sv (SV.one (AC.ref 0))), (6, AV.sv (ll (List.map syntaxC L))), (7, AV.sv (li (↑(List.length
 (List.map syntaxC L)) : Int))), (8, AV.sv x0)]) [x1] 0 
def Z3f (L : List Syntax) (k : Nat) : St := Zeq L (li (k : Int)) (Ob.arr true 5 (List.map syntaxC (List.take k L))) 
abbrev Z90 (L : List Syntax) : Nat -> St -> Prop := Head (Z3f L) (fun k => k <= List.length L /\ List.length L <= 9223372036854775807) fun k => List.length L - k 
def Z7e (L : List Syntax) (x0 : Ob) : St := St.mk (regsOf 19 [(3, AV.sv (SV.one (AC.ref 0)))]) [x0] 0 
def Zju (L : List Syntax) : List (Prop × AEx × St) := [(True, AEx.exit 0, Z7e L (Ob.arr true 5 (List.map syntaxC L)))]

theorem Zpu {L : List Syntax} {k : Nat} {x0 : SV} {x1 : Ob} (h0 : x0 = (li (k : Int))) (h1 : x1 = (Ob.arr true 5 (List.map syntaxC (List.take k L)))) : Zeq L x0
 x1 = Z3f L k := by
  rw [h0, h1]
  rfl
theorem Zms {L : List Syntax} {x0 y0 : Ob} (h0 : x0 = y0) : Z7e L x0 = Z7e L y0 := by rw [h0]
theorem Ztf (L : List Syntax) (k : Nat) : aexec Tryz.prog (loopAt Tryz.f184 0) (Z3f L k) [.br [.cells (syntaxF (List.getD L k default)), .call
 [Mode.rd] (syntaxO (List.getD L k default)) (AV.sv (syntaxR (List.getD L k default) 0)), .ghost (.sel [5] [3, 6, 7, 8]), .goto (List.length L - (k + 1)) (Z3f L
 (k + 1))] [.ghost (.sel [0] [3]), .out 0]] (loopK (Z90 L) (Zju L) (List.length L - k)) = ((decide ((k : Int) < (↑(List.length (List.map syntaxC L)) :
 Int)) = true -> (0 <= (k : Int) /\ (List.map syntaxC L)[Int.toNat (k : Int)]? = some (syntaxF (List.getD L k default))) /\ Znd (List.getD L k default) /\ (List.length
 (List.map syntaxC (List.take k L)) + 1) * 80 <= 140737488355328 /\ rng .i64 ((k : Int) + 1) /\ List.length L - (k + 1) < List.length L - k /\ Zeq L (li ((k : Int) +
 1)) (Ob.arr true 5 (List.map syntaxC (List.take k L) ++ [syntaxF (List.getD L k default)])) = Z3f L (k + 1) /\ Z90 L (List.length L - (k + 1)) (Z3f L (k
 + 1))) /\ (decide ((k : Int) < (↑(List.length (List.map syntaxC L)) : Int)) = false -> True /\ Z7e L (Ob.arr true 5 (List.map syntaxC (List.take k L))) = Z7e L
 (Ob.arr true 5 (List.map syntaxC L)))) := by kernel_rfl
theorem Zy6 (L : List Syntax) (h : List.length L <= 1048576 /\ sumBy wY L <= 1048576)  : LoopSem Tryz.prog (loopAt Tryz.f184 0) (Z90 L) (Zju L) := by
  refine LoopSem.ofHead wide fun k h => ⟨_, _, Ztf L k, ?_⟩
  have g2 := @sumBy_mem _ wY L (L.getD k default)
  with_reducible repeat' (first | apply And.intro | exact flatI | exact flatS | exact rowLens | (intro; skip) | apply obsN | apply obsC | apply obA | apply obM | apply obB | apply svA | apply tupA | apply lcA | apply lcS | apply svC | apply liC | apply lbC | apply lsC | apply vIc | apply vBc | apply vSc | apply vLc | apply mapC | apply hdI | apply Zpu | apply Zms | apply Z2y)
  all_goals (try simp only [std] at *)
  all_goals (try (first | with_reducible apply Z2y | (simp only [<- List.map_append]; first | with_reducible apply Z2y)))
  all_goals (try (first | with_reducible rfl | omega | assumption | exact dT ‹_› | exact dF ‹_› | ((first | refine rowGet ?_ | refine getC ?_ rfl); (first | omega | (simp only [std]; omega) | grind)) | (show (_ : St) = _; rfl) | grind [take_get, snocI, snocS, rowSnoc, getD_mem']))
theorem Zwn (L : List Syntax) : aexec Tryz.prog (Tryz.f184.body.getD .skip) (entry [] [ll (List.map syntaxC L)] 19) [.ghost (.nilreg 3 true 5),
 .ghost (.sel [0] [3, 6, 7, 8]), .loop (List.length L - 0) (Z3f L 0) (Z90 L) [(True, AEx.exit 0, Z7e L (Ob.arr true 5 (List.map syntaxC L)),
 [.fin [0]])]] (finK Tryz.prog [ResultVar.tmp 2] [Ob.arr true 5 (List.map syntaxC L)] (AV.sv (SV.one (AC.ref 0)))) = (List.length (List.map syntaxC L) <= 9223372036854775807 ->
 Zeq L (li 0) (Ob.arr true 5 []) = Z3f L 0 /\ Z90 L (List.length L - 0) (Z3f L 0) /\ LoopSem Tryz.prog (loopAt Tryz.f184 0) (Z90 L)
 (Zju L) /\ (True -> ObsEq [Ob.arr true 5 (List.map syntaxC L)] [Ob.arr true 5 (List.map syntaxC L)] /\ AV.sv (SV.one (AC.ref 0)) = AV.sv (SV.one (AC.ref 0))) /\ True) := by
 kernel_rfl
theorem Zpv (L : List Syntax) (h : L.length <= 1048576 /\ sumBy wY L <= 1048576)  : Zgj L := by
  refine CallOK.ofRun wide (Zwn L) Tryz.call184 Tryz.func184 rfl rfl rfl ?_
  with_reducible repeat' (first | apply And.intro | exact flatI | exact flatS | exact rowLens | (intro; skip) | apply obsN | apply obsC | apply obA | apply obM | apply obB | apply svA | apply tupA | apply lcA | apply lcS | apply svC | apply liC | apply lbC | apply lsC | apply vIc | apply vBc | apply vSc | apply vLc | apply mapC | apply hdI | apply Zpu | apply Zy6 | apply Zms | apply Z2y)
  all_goals (try simp only [std] at *)
  all_goals (try (first | with_reducible apply Z2y | (simp only [<- List.map_append]; first | with_reducible apply Z2y)))
  all_goals (try (first | with_reducible rfl | omega | assumption | exact dT ‹_› | exact dF ‹_› | ((first | refine rowGet ?_ | refine getC ?_ rfl); (first | omega | (simp only [std]; omega) | grind)) | (show (_ : St) = _; rfl) | grind [snocI, snocS, rowSnoc]))
abbrev Ztg (r : Rules) : Prop := CallOK Tryz.prog 189 [] [rulesA r] (rulesO r) (.sv (rulesR r 0))
theorem Zy7 (r : Rules) : aexec Tryz.prog (Tryz.f189.body.getD .skip) (entry [] [rulesA r] 13) [.draw [(10, [1])], .call [Mode.rd] [Ob.arr true 5
 (List.map syntaxC (Rules.literals r))] (AV.sv (SV.one (AC.ref 0))), .call [Mode.rd] [Ob.arr true 5 (List.map syntaxC (Rules.patterns r))] (AV.sv (SV.one (AC.ref 0))), .call
 [Mode.rd] [Ob.arr true 5 (List.map syntaxC (Rules.templates r))] (AV.sv (SV.one (AC.ref 0))), .fin [2, 10, 18]] (finK Tryz.prog [ResultVar.cell 2 78] (rulesO r) (AV.sv (rulesR
 r 0))) = (Zgj (Rules.literals r) /\ Zgj (Rules.patterns r) /\ Zgj (Rules.templates r) /\ ObsEq [Ob.arr true 5 (List.map syntaxC (Rules.literals r)), Ob.arr
 true 5 (List.map syntaxC (Rules.patterns r)), Ob.arr true 5 (List.map syntaxC (Rules.templates r))] [Ob.arr true 5 (List.map syntaxC (Rules.literals r)), Ob.arr true 5 (List.map
 syntaxC (Rules.patterns r)), Ob.arr true 5 (List.map syntaxC (Rules.templates r))] /\ AV.sv (SV.agg [AC.ref 0, AC.ref 1, AC.ref 2]) = AV.sv (SV.agg [AC.ref 0, AC.ref 1, AC.ref 2]))
 := by kernel_rfl
theorem Zfj (r : Rules) (h : wR r <= 1048576)  : Ztg r := by
  refine CallOK.ofRun wide (Zy7 r) Tryz.call189 Tryz.func189 rfl rfl rfl ?_
  have g := wR_eq r
  with_reducible repeat' (first | apply And.intro | exact flatI | exact flatS | exact rowLens | (intro; skip) | apply obsN | apply obsC | apply obA | apply obM | apply obB | apply svA | apply tupA | apply lcA | apply lcS | apply svC | apply liC | apply lbC | apply lsC | apply vIc | apply vBc | apply vSc | apply vLc | apply mapC | apply Zpv)
  all_goals (try simp only [std] at *)
  all_goals (try (first | with_reducible apply Zpv | (simp only [<- List.map_append]; first | with_reducible apply Zpv)))
  all_goals (try (first | with_reducible rfl | omega | assumption | exact dT ‹_› | exact dF ‹_› | ((first | refine rowGet ?_ | refine getC ?_ rfl); (first | omega | (simp only [std]; omega) | grind)) | (show (_ : St) = _; rfl) | grind [snocI, snocS, rowSnoc]))
abbrev Zth (r : Rules) : Prop := CallOK Tryz.prog 119 [] [rulesA r] (rulesO r) (.sv (rulesR r 0))
def Zgk (r : Rules) (x0 : SV) (x1 : Ob) : St := St.mk (regsOf 57 [(2, AV.sv (SV.one (AC.ptr 0 0))), (3, AV.sv (SV.one (AC.ptr 1 0))), (42, AV.sv (ll (List.map syntaxC
 (Rules.templates r)))), (43, AV.sv (li (↑(List.length (List.map syntaxC (Rules.templates r))) : Int))), (44, AV.sv x0)]) [Ob.box [AC.val (Cell.lit (Value.slice none 0 0)), AC.val
 (Cell.lit (Value.slice none 0 0)), AC.val (Cell.lit (Value.slice none 0 0))], Ob.box [AC.ref 2, AC.ref 3, AC.ref 4], Ob.arr true 5 (List.map syntaxC (Rules.literals r)), Ob.arr
 true 5 (List.map syntaxC (Rules.patterns r)), x1] 0 
def Z4d (r : Rules) (k : Nat) : St := Zgk r (li (k : Int)) (Ob.arr true 5 (List.map syntaxC (List.take k (Rules.templates r)))) 
abbrev Za6 (r : Rules) : Nat -> St -> Prop := Head (Z4d r) (fun k => k <= List.length (Rules.templates r) /\ List.length (Rules.templates r) <= 9223372036854775807) fun k
 => List.length (Rules.templates r) - k 
def Z91 (r : Rules) (x0 : Ob) : St := St.mk (regsOf 57 [(2, AV.sv (SV.one (AC.ptr 0 0))), (3, AV.sv (SV.one (AC.ptr 1 0)))]) [Ob.box [AC.val (Cell.lit (Value.slice none 0
 0)), AC.val (Cell.lit (Value.slice none 0 0)), AC.val (Cell.lit (Value.slice none 0 0))], Ob.box [AC.ref 2, AC.ref 3, AC.ref 4], Ob.arr true 5 (List.map syntaxC (Rules.literals
 r)), Ob.arr true 5 (List.map syntaxC (Rules.patterns r)), x0] 0 
def Zlt (r : Rules) : List (Prop × AEx × St) := [(True, AEx.exit 4, Z91 r (Ob.arr true 5 (List.map syntaxC (Rules.templates r))))]
def Zgl (r : Rules) (x0 : SV) (x1 : Ob) : St := St.mk (regsOf 57 [(1, AV.sv (SV.one (AC.ptr 0 0))), (2, AV.sv (SV.one (AC.ptr 1 0))), (3, AV.sv (SV.one (AC.ptr 2 0))), (27,
 AV.sv (ll (List.map syntaxC (Rules.patterns r)))), (28, AV.sv (li (↑(List.length (List.map syntaxC (Rules.patterns r))) : Int))), (29, AV.sv x0)]) [Ob.box (vals (rulesF r)),
 Ob.box [AC.val (Cell.lit (Value.slice none 0 0)), AC.val (Cell.lit (Value.slice none 0 0)), AC.val (Cell.lit (Value.slice none 0 0))], Ob.box [AC.ref 3, AC.ref 4, AC.val (Cell.lit
 (Value.slice none 0 0))], Ob.arr true 5 (List.map syntaxC (Rules.literals r)), x1] 0 
def Z4e (r : Rules) (k : Nat) : St := Zgl r (li (k : Int)) (Ob.arr true 5 (List.map syntaxC (List.take k (Rules.patterns r)))) 
abbrev Za7 (r : Rules) : Nat -> St -> Prop := Head (Z4e r) (fun k => k <= List.length (Rules.patterns r) /\ List.length (Rules.patterns r) <= 9223372036854775807) fun k =>
 List.length (Rules.patterns r) - k 
def Z92 (r : Rules) (x0 : Ob) : St := St.mk (regsOf 57 [(1, AV.sv (SV.one (AC.ptr 0 0))), (2, AV.sv (SV.one (AC.ptr 1 0))), (3, AV.sv (SV.one (AC.ptr 2 0)))]) [Ob.box
 (vals (rulesF r)), Ob.box [AC.val (Cell.lit (Value.slice none 0 0)), AC.val (Cell.lit (Value.slice none 0 0)), AC.val (Cell.lit (Value.slice none 0 0))], Ob.box [AC.ref 3, AC.ref
 4, AC.val (Cell.lit (Value.slice none 0 0))], Ob.arr true 5 (List.map syntaxC (Rules.literals r)), x0] 0 
def Zlu (r : Rules) : List (Prop × AEx × St) := [(True, AEx.exit 2, Z92 r (Ob.arr true 5 (List.map syntaxC (Rules.patterns r))))]
def Zgm (r : Rules) (x0 : SV) (x1 : Ob) : St := St.mk (regsOf 57 [(1, AV.sv (SV.one (AC.ptr 0 0))), (2, AV.sv (SV.one (AC.ptr 1 0))), (3, AV.sv (SV.one (AC.ptr 2 0))), (12,
 AV.sv (ll (List.map syntaxC (Rules.literals r)))), (13, AV.sv (li (↑(List.length (List.map syntaxC (Rules.literals r))) : Int))), (14, AV.sv x0)]) [Ob.box (vals (rulesF r)),
 Ob.box [AC.val (Cell.lit (Value.slice none 0 0)), AC.val (Cell.lit (Value.slice none 0 0)), AC.val (Cell.lit (Value.slice none 0 0))], Ob.box [AC.ref 3, AC.val (Cell.lit
 (Value.slice none 0 0)), AC.val (Cell.lit (Value.slice none 0 0))], x1] 0 
def Z4f (r : Rules) (k : Nat) : St := Zgm r (li (k : Int)) (Ob.arr true 5 (List.map syntaxC (List.take k (Rules.literals r)))) 
abbrev Za8 (r : Rules) : Nat -> St -> Prop := Head (Z4f r) (fun k => k <= List.length (Rules.literals r) /\ List.length (Rules.literals r) <= 9223372036854775807) fun k =>
 List.length (Rules.literals r) - k 
def Z93 (r : Rules) (x0 : Ob) : St := St.mk (regsOf 57 [(1, AV.sv (SV.one (AC.ptr 0 0))), (2, AV.sv (SV.one (AC.ptr 1 0))), (3, AV.sv (SV.one (AC.ptr 2 0)))]) [Ob.box
 (vals (rulesF r)), Ob.box [AC.val (Cell.lit (Value.slice none 0 0)), AC.val (Cell.lit (Value.slice none 0 0)), AC.val (Cell.lit (Value.slice none 0 0))], Ob.box [AC.ref 3, AC.val
 (Cell.lit (Value.slice none 0 0)), AC.val (Cell.lit (Value.slice none 0 0))], x0] 0 
def Zlv (r : Rules) : List (Prop × AEx × St) := [(True, AEx.exit 0, Z93 r (Ob.arr true 5 (List.map syntaxC (Rules.literals r))))]

theorem Zgn {r : Rules} {k : Nat} {x0 : SV} {x1 : Ob} (h0 : x0 = (li (k : Int))) (h1 : x1 = (Ob.arr true 5 (List.map syntaxC (List.take k (Rules.templates r))))) :
 Zgk r x0 x1 = Z4d r k := by
  rw [h0, h1]
  rfl
theorem Zcx {r : Rules} {x0 y0 : Ob} (h0 : x0 = y0) : Z91 r x0 = Z91 r y0 := by rw [h0]
abbrev Z5j (r : Rules) (k : Nat) := (List.getD (Rules.templates r) k default)
theorem Zuq (r : Rules) (k : Nat) : aexec Tryz.prog (loopAt Tryz.f119 2) (Z4d r k) [.br [.cells (syntaxF (Z5j r k)), .draw [(4, [6, 7]), (5,
 [4, 14]), (7, [1])], .call [Mode.rd] (syntaxO (Z5j r k)) (AV.sv (syntaxR (Z5j r k) 0)), .ghost (.sel [0, 1, 2, 3, 15] [2, 3, 42, 43, 44]), .goto
 (List.length (Rules.templates r) - (k + 1)) (Z4d r (k + 1))] [.ghost (.sel [0, 1, 2, 3, 4] [2, 3]), .out 0]] (loopK (Za6 r) (Zlt r) (List.length
 (Rules.templates r) - k)) = ((decide ((k : Int) < (↑(List.length (List.map syntaxC (Rules.templates r))) : Int)) = true -> (0 <= (k : Int) /\ (List.map syntaxC (Rules.templates
 r))[Int.toNat (k : Int)]? = some (syntaxF (Z5j r k))) /\ Ze5 (Z5j r k) /\ (List.length (List.map syntaxC (List.take k (Rules.templates r))) + 1) * 80 <=
 140737488355328 /\ rng .i64 ((k : Int) + 1) /\ List.length (Rules.templates r) - (k + 1) < List.length (Rules.templates r) - k /\ Zgk r (li ((k : Int) + 1)) (Ob.arr
 true 5 (List.map syntaxC (List.take k (Rules.templates r)) ++ [syntaxF (Z5j r k)])) = Z4d r (k + 1) /\ Za6 r (List.length (Rules.templates r) - (k + 1))
 (Z4d r (k + 1))) /\ (decide ((k : Int) < (↑(List.length (List.map syntaxC (Rules.templates r))) : Int)) = false -> True /\ Z91 r (Ob.arr true 5 (List.map syntaxC
 (List.take k (Rules.templates r)))) = Z91 r (Ob.arr true 5 (List.map syntaxC (Rules.templates r))))) := by kernel_rfl

theorem Zgo {r : Rules} {k : Nat} {x0 : SV} {x1 : Ob} (h0 : x0 = (li (k : Int))) (h1 : x1 = (Ob.arr true 5 (List.map syntaxC (List.take k (Rules.patterns r))))) :
 Zgl r x0 x1 = Z4e r k := by
  rw [h0, h1]
  rfl
theorem Zcy {r : Rules} {x0 y0 : Ob} (h0 : x0 = y0) : Z92 r x0 = Z92 r y0 := by rw [h0]
abbrev Z5k (r : Rules) (k : Nat) := (List.getD (Rules.patterns r) k default)
theorem Zur (r : Rules) (k : Nat) : aexec Tryz.prog (loopAt Tryz.f119 1) (Z4e r k) [.br [.cells (syntaxF (Z5k r k)), .draw [(4, [6, 7]), (5,
 [4, 14]), (7, [2])], .call [Mode.rd] (syntaxO (Z5k r k)) (AV.sv (syntaxR (Z5k r k) 0)), .ghost (.sel [0, 1, 2, 3, 15] [1, 2, 3, 27, 28, 29]),
 .goto (List.length (Rules.patterns r) - (k + 1)) (Z4e r (k + 1))] [.ghost (.sel [0, 1, 2, 3, 4] [1, 2, 3]), .out 0]] (loopK (Za7 r) (Zlu r)
 (List.length (Rules.patterns r) - k)) = ((decide ((k : Int) < (↑(List.length (List.map syntaxC (Rules.patterns r))) : Int)) = true -> (0 <= (k : Int) /\ (List.map syntaxC
 (Rules.patterns r))[Int.toNat (k : Int)]? = some (syntaxF (Z5k r k))) /\ Ze5 (Z5k r k) /\ (List.length (List.map syntaxC (List.take k (Rules.patterns
 r))) + 1) * 80 <= 140737488355328 /\ rng .i64 ((k : Int) + 1) /\ List.length (Rules.patterns r) - (k + 1) < List.length (Rules.patterns r) - k /\ Zgl r (li ((k : Int)
 + 1)) (Ob.arr true 5 (List.map syntaxC (List.take k (Rules.patterns r)) ++ [syntaxF (Z5k r k)])) = Z4e r (k + 1) /\ Za7 r (List.length (Rules.patterns r)
 - (k + 1)) (Z4e r (k + 1))) /\ (decide ((k : Int) < (↑(List.length (List.map syntaxC (Rules.patterns r))) : Int)) = false -> True /\ Z92 r (Ob.arr true 5 (List.map
 syntaxC (List.take k (Rules.patterns r)))) = Z92 r (Ob.arr true 5 (List.map syntaxC (Rules.patterns r))))) := by kernel_rfl

theorem Zgp {r : Rules} {k : Nat} {x0 : SV} {x1 : Ob} (h0 : x0 = (li (k : Int))) (h1 : x1 = (Ob.arr true 5 (List.map syntaxC (List.take k (Rules.literals r))))) :
 Zgm r x0 x1 = Z4f r k := by
  rw [h0, h1]
  rfl
theorem Zcz {r : Rules} {x0 y0 : Ob} (h0 : x0 = y0) : Z93 r x0 = Z93 r y0 := by rw [h0]
abbrev Z5l (r : Rules) (k : Nat) := (List.getD (Rules.literals r) k default)
theorem Zus (r : Rules) (k : Nat) : aexec Tryz.prog (loopAt Tryz.f119 0) (Z4f r k) [.br [.cells (syntaxF (Z5l r k)), .draw [(4, [5, 6]), (5,
 [3, 13]), (7, [2])], .call [Mode.rd] (syntaxO (Z5l r k)) (AV.sv (syntaxR (Z5l r k) 0)), .ghost (.sel [0, 1, 2, 14] [1, 2, 3, 12, 13, 14]), .goto
 (List.length (Rules.literals r) - (k + 1)) (Z4f r (k + 1))] [.ghost (.sel [0, 1, 2, 3] [1, 2, 3]), .out 0]] (loopK (Za8 r) (Zlv r) (List.length
 (Rules.literals r) - k)) = ((decide ((k : Int) < (↑(List.length (List.map syntaxC (Rules.literals r))) : Int)) = true -> (0 <= (k : Int) /\ (List.map syntaxC (Rules.literals
 r))[Int.toNat (k : Int)]? = some (syntaxF (Z5l r k))) /\ Ze5 (Z5l r k) /\ (List.length (List.map syntaxC (List.take k (Rules.literals r))) + 1) * 80 <=
 140737488355328 /\ rng .i64 ((k : Int) + 1) /\ List.length (Rules.literals r) - (k + 1) < List.length (Rules.literals r) - k /\ Zgm r (li ((k : Int) + 1)) (Ob.arr
 true 5 (List.map syntaxC (List.take k (Rules.literals r)) ++ [syntaxF (Z5l r k)])) = Z4f r (k + 1) /\ Za8 r (List.length (Rules.literals r) - (k + 1))
 (Z4f r (k + 1))) /\ (decide ((k : Int) < (↑(List.length (List.map syntaxC (Rules.literals r))) : Int)) = false -> True /\ Z93 r (Ob.arr true 5 (List.map syntaxC
 (List.take k (Rules.literals r)))) = Z93 r (Ob.arr true 5 (List.map syntaxC (Rules.literals r))))) := by kernel_rfl
theorem Zlw (r : Rules) (h : wR r <= 1048576)  : LoopSem Tryz.prog (loopAt Tryz.f119 2) (Za6 r) (Zlt r) := by
  refine LoopSem.ofHead wide fun k h => ⟨_, _, Zuq r k, ?_⟩
  try delta Z5j
  have g := wR_eq r
  have g2 := @sumBy_mem _ wY r.templates (r.templates.getD k default)
  with_reducible repeat' (first | apply And.intro | exact flatI | exact flatS | exact rowLens | (intro; skip) | apply obsN | apply obsC | apply obA | apply obM | apply obB | apply svA | apply tupA | apply lcA | apply lcS | apply svC | apply liC | apply lbC | apply lsC | apply vIc | apply vBc | apply vSc | apply vLc | apply mapC | apply hdI | apply Zgp | apply Zgo | apply Zgn | apply Zcx | apply Zcy | apply Zcz | apply Z1g)
  all_goals (try simp only [std] at *)
  all_goals (try (first | with_reducible apply Z1g | (simp only [<- List.map_append]; first | with_reducible apply Z1g)))
  all_goals (try (first | with_reducible rfl | omega | assumption | exact dT ‹_› | exact dF ‹_› | ((first | refine rowGet ?_ | refine getC ?_ rfl); (first | omega | (simp only [std]; omega) | grind)) | (show (_ : St) = _; rfl) | grind [take_get, snocI, snocS, rowSnoc, getD_mem']))
theorem Zr3 (r : Rules) (h : wR r <= 1048576)  : LoopSem Tryz.prog (loopAt Tryz.f119 1) (Za7 r) (Zlu r) := by
  refine LoopSem.ofHead wide fun k h => ⟨_, _, Zur r k, ?_⟩
  try delta Z5k
  have g := wR_eq r
  have g2 := @sumBy_mem _ wY r.patterns (r.patterns.getD k default)
  with_reducible repeat' (first | apply And.intro | exact flatI | exact flatS | exact rowLens | (intro; skip) | apply obsN | apply obsC | apply obA | apply obM | apply obB | apply svA | apply tupA | apply lcA | apply lcS | apply svC | apply liC | apply lbC | apply lsC | apply vIc | apply vBc | apply vSc | apply vLc | apply mapC | apply hdI | apply Zgp | apply Zgo | apply Zgn | apply Zlw | apply Zcx | apply Zcy | apply Zcz | apply Z1g)
  all_goals (try simp only [std] at *)
  all_goals (try (first | with_reducible apply Z1g | (simp only [<- List.map_append]; first | with_reducible apply Z1g)))
  all_goals (try (first | with_reducible rfl | omega | assumption | exact dT ‹_› | exact dF ‹_› | ((first | refine rowGet ?_ | refine getC ?_ rfl); (first | omega | (simp only [std]; omega) | grind)) | (show (_ : St) = _; rfl) | grind [take_get, snocI, snocS, rowSnoc, getD_mem']))
theorem Zzr (r : Rules) (h : wR r <= 1048576)  : LoopSem Tryz.prog (loopAt Tryz.f119 0) (Za8 r) (Zlv r) := by
  refine LoopSem.ofHead wide fun k h => ⟨_, _, Zus r k, ?_⟩
  try delta Z5l
  have g := wR_eq r
  have g2 := @sumBy_mem _ wY r.literals (r.literals.getD k default)
  with_reducible repeat' (first | apply And.intro | exact flatI | exact flatS | exact rowLens | (intro; skip) | apply obsN | apply obsC | apply obA | apply obM | apply obB | apply svA | apply tupA | apply lcA | apply lcS | apply svC | apply liC | apply lbC | apply lsC | apply vIc | apply vBc | apply vSc | apply vLc | apply mapC | apply hdI | apply Zgp | apply Zgo | apply Zgn | apply Zr3 | apply Zlw | apply Zcx | apply Zcy | apply Zcz | apply Z1g)
  all_goals (try simp only [std] at *)
  all_goals (try (first | with_reducible apply Z1g | (simp only [<- List.map_append]; first | with_reducible apply Z1g)))
  all_goals (try (first | with_reducible rfl | omega | assumption | exact dT ‹_› | exact dF ‹_› | ((first | refine rowGet ?_ | refine getC ?_ rfl); (first | omega | (simp only [std]; omega) | grind)) | (show (_ : St) = _; rfl) | grind [take_get, snocI, snocS, rowSnoc, getD_mem']))
abbrev Zlx (r : Rules) := [Ob.arr true 5 (List.map syntaxC (Rules.literals r)), Ob.arr true 5 (List.map syntaxC (Rules.patterns r)), Ob.arr true 5 (List.map syntaxC
 (Rules.templates r))]
theorem Zy8 (r : Rules) : aexec Tryz.prog (Tryz.f119.body.getD .skip) (entry [] [rulesA r] 57) [.ghost (.nilbox 2 0 true 5), .ghost (.sel
 [0, 1, 2, 3] [1, 2, 3, 12, 13, 14]), .loop (List.length (Rules.literals r) - 0) (Z4f r 0) (Za8 r) [(True, AEx.exit 0, Z93 r (Ob.arr true 5 (List.map
 syntaxC (Rules.literals r))), [.ghost (.nilbox 2 1 true 5), .ghost (.sel [0, 1, 2, 3, 4] [1, 2, 3, 27, 28, 29]), .loop (List.length (Rules.patterns r) - 0)
 (Z4e r 0) (Za7 r) [(True, AEx.exit 2, Z92 r (Ob.arr true 5 (List.map syntaxC (Rules.patterns r))), [.ghost (.nilbox 2 2 true 5), .ghost
 (.sel [1, 2, 3, 4, 5] [2, 3, 42, 43, 44]), .loop (List.length (Rules.templates r) - 0) (Z4d r 0) (Za6 r) [(True, AEx.exit 4, Z91 r (Ob.arr true 5
 (List.map syntaxC (Rules.templates r))), [.fin [2, 3, 4]])]])]])]] (finK Tryz.prog [ResultVar.cell 2 78] (rulesO r) (AV.sv (rulesR r 0))) = (List.length (List.map syntaxC
 (Rules.literals r)) <= 9223372036854775807 -> Zgm r (li 0) (Ob.arr true 5 []) = Z4f r 0 /\ Za8 r (List.length (Rules.literals r) - 0) (Z4f r 0) /\
 LoopSem Tryz.prog (loopAt Tryz.f119 0) (Za8 r) (Zlv r) /\ (True -> List.length (List.map syntaxC (Rules.patterns r)) <= 9223372036854775807 -> Zgl r (li 0)
 (Ob.arr true 5 []) = Z4e r 0 /\ Za7 r (List.length (Rules.patterns r) - 0) (Z4e r 0) /\ LoopSem Tryz.prog (loopAt Tryz.f119 1) (Za7 r) (Zlu
 r) /\ (True -> List.length (List.map syntaxC (Rules.templates r)) <= 9223372036854775807 -> Zgk r (li 0) (Ob.arr true 5 []) = Z4d r 0 /\ Za6 r (List.length
 (Rules.templates r) - 0) (Z4d r 0) /\ LoopSem Tryz.prog (loopAt Tryz.f119 2) (Za6 r) (Zlt r) /\ (True -> ObsEq (Zlx r) (Zlx r) /\ AV.sv (SV.agg
 [AC.ref 0, AC.ref 1, AC.ref 2]) = AV.sv (SV.agg [AC.ref 0, AC.ref 1, AC.ref 2])) /\ True) /\ True) /\ True) := by kernel_rfl
theorem Zfk (r : Rules) (h : wR r <= 1048576)  : Zth r := by
  refine CallOK.ofRun wide (Zy8 r) Tryz.call119 Tryz.func119 rfl rfl rfl ?_
  try delta Zlx
  have g := wR_eq r
  with_reducible repeat' (first | apply And.intro | exact flatI | exact flatS | exact rowLens | (intro; skip) | apply obsN | apply obsC | apply obA | apply obM | apply obB | apply svA | apply tupA | apply lcA | apply lcS | apply svC | apply liC | apply lbC | apply lsC | apply vIc | apply vBc | apply vSc | apply vLc | apply mapC | apply hdI | apply Zgp | apply Zzr | apply Zgo | apply Zr3 | apply Zgn | apply Zlw | apply Zcx | apply Zcy | apply Zcz | apply Z1g)
  all_goals (try simp only [std] at *)
  all_goals (try (first | with_reducible apply Z1g | (simp only [<- List.map_append]; first | with_reducible apply Z1g)))
  all_goals (try (first | with_reducible rfl | omega | assumption | exact dT ‹_› | exact dF ‹_› | ((first | refine rowGet ?_ | refine getC ?_ rfl); (first | omega | (simp only [std]; omega) | grind)) | (show (_ : St) = _; rfl) | grind [snocI, snocS, rowSnoc]))
abbrev Z9j (x : Expander) : Prop := CallOK Tryz.prog 106 [] [expanderA x] (expanderO x) (.sv (expanderR x 0))
def Zgq (x : Expander) (x0 : SV) (x1 : Ob) : St := St.mk (regsOf 32 [(2, AV.sv (SV.one (AC.ptr 0 0))), (3, AV.sv (SV.one (AC.ptr 1 0))), (17, AV.sv (ll (List.map rulesC
 (Expander.macros x)))), (18, AV.sv (li (↑(List.length (List.map rulesC (Expander.macros x))) : Int))), (19, AV.sv x0)]) [Ob.box [AC.val (Cell.lit (Value.slice none 0 0)), AC.val
 (Cell.lit (Value.slice none 0 0)), vI 0, vI 0, vI 0], Ob.box [AC.ref 2, AC.ref 3, vI (Expander.scope x), vI (Expander.vari x), vI (Expander.steps x)], Ob.arr true 4 (List.map
 bindingC (Expander.bindings x)), x1] 0 
def Z4g (x : Expander) (k : Nat) : St := Zgq x (li (k : Int)) (Ob.arr true 3 (List.map rulesC (List.take k (Expander.macros x)))) 
abbrev Za9 (x : Expander) : Nat -> St -> Prop := Head (Z4g x) (fun k => k <= List.length (Expander.macros x) /\ List.length (Expander.macros x) <= 9223372036854775807) fun
 k => List.length (Expander.macros x) - k 
def Z94 (x : Expander) (x0 : Ob) : St := St.mk (regsOf 32 [(2, AV.sv (SV.one (AC.ptr 0 0))), (3, AV.sv (SV.one (AC.ptr 1 0)))]) [Ob.box [AC.val (Cell.lit (Value.slice none
 0 0)), AC.val (Cell.lit (Value.slice none 0 0)), vI 0, vI 0, vI 0], Ob.box [AC.ref 2, AC.ref 3, vI (Expander.scope x), vI (Expander.vari x), vI (Expander.steps x)], Ob.arr true 4
 (List.map bindingC (Expander.bindings x)), x0] 0 
def Zly (x : Expander) : List (Prop × AEx × St) := [(True, AEx.exit 0, Z94 x (Ob.arr true 3 (List.map rulesC (Expander.macros x))))]

theorem Zr4 {x : Expander} {k : Nat} {x0 : SV} {x1 : Ob} (h0 : x0 = (li (k : Int))) (h1 : x1 = (Ob.arr true 3 (List.map rulesC (List.take k (Expander.macros x))))) :
 Zgq x x0 x1 = Z4g x k := by
  rw [h0, h1]
  rfl
theorem Zof {x : Expander} {x0 y0 : Ob} (h0 : x0 = y0) : Z94 x x0 = Z94 x y0 := by rw [h0]
abbrev Z5m (x : Expander) (k : Nat) := (List.getD (Expander.macros x) k default)
theorem Zut (x : Expander) (k : Nat) : aexec Tryz.prog (loopAt Tryz.f106 0) (Z4g x k) [.br [.cells (rulesF (Z5m x k)), .draw [(4, [5, 6, 7]),
 (5, [3, 13]), (7, [1])], .call [Mode.rd] (rulesO (Z5m x k)) (AV.sv (rulesR (Z5m x k) 0)), .ghost (.sel [0, 1, 2, 14] [2, 3, 17, 18, 19]), .goto
 (List.length (Expander.macros x) - (k + 1)) (Z4g x (k + 1))] [.ghost (.sel [0, 1, 2, 3] [2, 3]), .out 0]] (loopK (Za9 x) (Zly x) (List.length
 (Expander.macros x) - k)) = ((decide ((k : Int) < (↑(List.length (List.map rulesC (Expander.macros x))) : Int)) = true -> (0 <= (k : Int) /\ (List.map rulesC (Expander.macros
 x))[Int.toNat (k : Int)]? = some (rulesF (Z5m x k))) /\ Zth (Z5m x k) /\ (List.length (List.map rulesC (List.take k (Expander.macros x))) + 1) * 72 <=
 140737488355328 /\ rng .i64 ((k : Int) + 1) /\ List.length (Expander.macros x) - (k + 1) < List.length (Expander.macros x) - k /\ Zgq x (li ((k : Int) + 1)) (Ob.arr
 true 3 (List.map rulesC (List.take k (Expander.macros x)) ++ [rulesF (Z5m x k)])) = Z4g x (k + 1) /\ Za9 x (List.length (Expander.macros x) - (k + 1))
 (Z4g x (k + 1))) /\ (decide ((k : Int) < (↑(List.length (List.map rulesC (Expander.macros x))) : Int)) = false -> True /\ Z94 x (Ob.arr true 3 (List.map rulesC
 (List.take k (Expander.macros x)))) = Z94 x (Ob.arr true 3 (List.map rulesC (Expander.macros x))))) := by kernel_rfl
theorem Zzs (x : Expander) (h : wX x <= 1048576)  : LoopSem Tryz.prog (loopAt Tryz.f106 0) (Za9 x) (Zly x) := by
  refine LoopSem.ofHead wide fun k h => ⟨_, _, Zut x k, ?_⟩
  try delta Z5m
  have g := wX_eq x
  have g2 := @sumBy_mem _ wR x.macros (x.macros.getD k default)
  with_reducible repeat' (first | apply And.intro | exact flatI | exact flatS | exact rowLens | (intro; skip) | apply obsN | apply obsC | apply obA | apply obM | apply obB | apply svA | apply tupA | apply lcA | apply lcS | apply svC | apply liC | apply lbC | apply lsC | apply vIc | apply vBc | apply vSc | apply vLc | apply mapC | apply hdI | apply Zr4 | apply Zof | apply Z5i | apply Zfk)
  all_goals (try simp only [std] at *)
  all_goals (try (first | with_reducible apply Z5i | with_reducible apply Zfk | (simp only [<- List.map_append]; first | with_reducible apply Z5i | with_reducible apply Zfk)))
  all_goals (try (first | with_reducible rfl | omega | assumption | exact dT ‹_› | exact dF ‹_› | ((first | refine rowGet ?_ | refine getC ?_ rfl); (first | omega | (simp only [std]; omega) | grind)) | (show (_ : St) = _; rfl) | grind [take_get, snocI, snocS, rowSnoc, getD_mem']))
theorem Zy9 (x : Expander) : aexec Tryz.prog (Tryz.f106.body.getD .skip) (entry [] [expanderA x] 32) [.draw [(11, [10])], .call [Mode.rd] [Ob.arr
 true 4 (List.map bindingC (Expander.bindings x))] (AV.sv (SV.one (AC.ref 0))), .ghost (.nilbox 10 1 true 3), .ghost (.sel [1, 10, 2, 11] [2, 3, 17, 18, 19]),
 .loop (List.length (Expander.macros x) - 0) (Z4g x 0) (Za9 x) [(True, AEx.exit 0, Z94 x (Ob.arr true 3 (List.map rulesC (Expander.macros x))), [.fin
 [2, 3]])]] (finK Tryz.prog [ResultVar.cell 2 49] (expanderO x) (AV.sv (expanderR x 0))) = (Zbt (Expander.bindings x) /\ (List.length (List.map rulesC (Expander.macros x)) <=
 9223372036854775807 -> Zgq x (li 0) (Ob.arr true 3 []) = Z4g x 0 /\ Za9 x (List.length (Expander.macros x) - 0) (Z4g x 0) /\ LoopSem Tryz.prog (loopAt
 Tryz.f106 0) (Za9 x) (Zly x) /\ (True -> ObsEq [Ob.arr true 4 (List.map bindingC (Expander.bindings x)), Ob.arr true 3 (List.map rulesC (Expander.macros x))] [Ob.arr
 true 4 (List.map bindingC (Expander.bindings x)), Ob.arr true 3 (List.map rulesC (Expander.macros x))] /\ AV.sv (SV.agg [AC.ref 0, AC.ref 1, vI (Expander.scope x), vI
 (Expander.vari x), vI (Expander.steps x)]) = AV.sv (SV.agg [AC.ref 0, AC.ref 1, vI (Expander.scope x), vI (Expander.vari x), vI (Expander.steps x)])) /\ True)) := by kernel_rfl
theorem Zfl (x : Expander) (h : wX x <= 1048576)  : Z9j x := by
  refine CallOK.ofRun wide (Zy9 x) Tryz.call106 Tryz.func106 rfl rfl rfl ?_
  have g := wX_eq x
  with_reducible repeat' (first | apply And.intro | exact flatI | exact flatS | exact rowLens | (intro; skip) | apply obsN | apply obsC | apply obA | apply obM | apply obB | apply svA | apply tupA | apply lcA | apply lcS | apply svC | apply liC | apply lbC | apply lsC | apply vIc | apply vBc | apply vSc | apply vLc | apply mapC | apply hdI | apply Zr4 | apply Zzs | apply Zof | apply Z5i | apply Zfk)
  all_goals (try simp only [std] at *)
  all_goals (try (first | with_reducible apply Z5i | with_reducible apply Zfk | (simp only [<- List.map_append]; first | with_reducible apply Z5i | with_reducible apply Zfk)))
  all_goals (try (first | with_reducible rfl | omega | assumption | exact dT ‹_› | exact dF ‹_› | ((first | refine rowGet ?_ | refine getC ?_ rfl); (first | omega | (simp only [std]; omega) | grind)) | (show (_ : St) = _; rfl) | grind [snocI, snocS, rowSnoc]))
abbrev Zti (x : Expander) : Prop := CallOK Tryz.prog 108 [] [expanderA x] (expanderO x) (.sv (expanderR x 0))
def Zgr (x : Expander) (x0 : SV) (x1 : Ob) : St := St.mk (regsOf 32 [(2, AV.sv (SV.one (AC.ptr 0 0))), (3, AV.sv (SV.one (AC.ptr 1 0))), (17, AV.sv (ll (List.map rulesC
 (Expander.macros x)))), (18, AV.sv (li (↑(List.length (List.map rulesC (Expander.macros x))) : Int))), (19, AV.sv x0)]) [Ob.box [AC.val (Cell.lit (Value.slice none 0 0)), AC.val
 (Cell.lit (Value.slice none 0 0)), vI 0, vI 0, vI 0], Ob.box [AC.ref 2, AC.ref 3, vI (Expander.scope x), vI (Expander.vari x), vI (Expander.steps x)], Ob.arr true 4 (List.map
 bindingC (Expander.bindings x)), x1] 0 
def Z4h (x : Expander) (k : Nat) : St := Zgr x (li (k : Int)) (Ob.arr true 3 (List.map rulesC (List.take k (Expander.macros x)))) 
abbrev Zaa (x : Expander) : Nat -> St -> Prop := Head (Z4h x) (fun k => k <= List.length (Expander.macros x) /\ List.length (Expander.macros x) <= 9223372036854775807) fun
 k => List.length (Expander.macros x) - k 
def Z95 (x : Expander) (x0 : Ob) : St := St.mk (regsOf 32 [(2, AV.sv (SV.one (AC.ptr 0 0))), (3, AV.sv (SV.one (AC.ptr 1 0)))]) [Ob.box [AC.val (Cell.lit (Value.slice none
 0 0)), AC.val (Cell.lit (Value.slice none 0 0)), vI 0, vI 0, vI 0], Ob.box [AC.ref 2, AC.ref 3, vI (Expander.scope x), vI (Expander.vari x), vI (Expander.steps x)], Ob.arr true 4
 (List.map bindingC (Expander.bindings x)), x0] 0 
def Zlz (x : Expander) : List (Prop × AEx × St) := [(True, AEx.exit 0, Z95 x (Ob.arr true 3 (List.map rulesC (Expander.macros x))))]

theorem Zr5 {x : Expander} {k : Nat} {x0 : SV} {x1 : Ob} (h0 : x0 = (li (k : Int))) (h1 : x1 = (Ob.arr true 3 (List.map rulesC (List.take k (Expander.macros x))))) :
 Zgr x x0 x1 = Z4h x k := by
  rw [h0, h1]
  rfl
theorem Zog {x : Expander} {x0 y0 : Ob} (h0 : x0 = y0) : Z95 x x0 = Z95 x y0 := by rw [h0]
abbrev Z5n (x : Expander) (k : Nat) := (List.getD (Expander.macros x) k default)
theorem Zuu (x : Expander) (k : Nat) : aexec Tryz.prog (loopAt Tryz.f108 0) (Z4h x k) [.br [.cells (rulesF (Z5n x k)), .draw [(4, [5, 6, 7]),
 (5, [3, 13]), (7, [1])], .call [Mode.rd] (rulesO (Z5n x k)) (AV.sv (rulesR (Z5n x k) 0)), .ghost (.sel [0, 1, 2, 14] [2, 3, 17, 18, 19]), .goto
 (List.length (Expander.macros x) - (k + 1)) (Z4h x (k + 1))] [.ghost (.sel [0, 1, 2, 3] [2, 3]), .out 0]] (loopK (Zaa x) (Zlz x) (List.length
 (Expander.macros x) - k)) = ((decide ((k : Int) < (↑(List.length (List.map rulesC (Expander.macros x))) : Int)) = true -> (0 <= (k : Int) /\ (List.map rulesC (Expander.macros
 x))[Int.toNat (k : Int)]? = some (rulesF (Z5n x k))) /\ Ztg (Z5n x k) /\ (List.length (List.map rulesC (List.take k (Expander.macros x))) + 1) * 72 <=
 140737488355328 /\ rng .i64 ((k : Int) + 1) /\ List.length (Expander.macros x) - (k + 1) < List.length (Expander.macros x) - k /\ Zgr x (li ((k : Int) + 1)) (Ob.arr
 true 3 (List.map rulesC (List.take k (Expander.macros x)) ++ [rulesF (Z5n x k)])) = Z4h x (k + 1) /\ Zaa x (List.length (Expander.macros x) - (k + 1))
 (Z4h x (k + 1))) /\ (decide ((k : Int) < (↑(List.length (List.map rulesC (Expander.macros x))) : Int)) = false -> True /\ Z95 x (Ob.arr true 3 (List.map rulesC
 (List.take k (Expander.macros x)))) = Z95 x (Ob.arr true 3 (List.map rulesC (Expander.macros x))))) := by kernel_rfl
theorem Zzt (x : Expander) (h : wX x <= 1048576)  : LoopSem Tryz.prog (loopAt Tryz.f108 0) (Zaa x) (Zlz x) := by
  refine LoopSem.ofHead wide fun k h => ⟨_, _, Zuu x k, ?_⟩
  try delta Z5n
  have g := wX_eq x
  have g2 := @sumBy_mem _ wR x.macros (x.macros.getD k default)
  with_reducible repeat' (first | apply And.intro | exact flatI | exact flatS | exact rowLens | (intro; skip) | apply obsN | apply obsC | apply obA | apply obM | apply obB | apply svA | apply tupA | apply lcA | apply lcS | apply svC | apply liC | apply lbC | apply lsC | apply vIc | apply vBc | apply vSc | apply vLc | apply mapC | apply hdI | apply Zr5 | apply Zog | apply Zfi | apply Zfj)
  all_goals (try simp only [std] at *)
  all_goals (try (first | with_reducible apply Zfi | with_reducible apply Zfj | (simp only [<- List.map_append]; first | with_reducible apply Zfi | with_reducible apply Zfj)))
  all_goals (try (first | with_reducible rfl | omega | assumption | exact dT ‹_› | exact dF ‹_› | ((first | refine rowGet ?_ | refine getC ?_ rfl); (first | omega | (simp only [std]; omega) | grind)) | (show (_ : St) = _; rfl) | grind [take_get, snocI, snocS, rowSnoc, getD_mem']))
theorem Zya (x : Expander) : aexec Tryz.prog (Tryz.f108.body.getD .skip) (entry [] [expanderA x] 32) [.draw [(11, [10])], .call [Mode.rd] [Ob.arr
 true 4 (List.map bindingC (Expander.bindings x))] (AV.sv (SV.one (AC.ref 0))), .ghost (.nilbox 10 1 true 3), .ghost (.sel [1, 10, 2, 11] [2, 3, 17, 18, 19]),
 .loop (List.length (Expander.macros x) - 0) (Z4h x 0) (Zaa x) [(True, AEx.exit 0, Z95 x (Ob.arr true 3 (List.map rulesC (Expander.macros x))), [.fin
 [2, 3]])]] (finK Tryz.prog [ResultVar.cell 2 49] (expanderO x) (AV.sv (expanderR x 0))) = (Zte (Expander.bindings x) /\ (List.length (List.map rulesC (Expander.macros x)) <=
 9223372036854775807 -> Zgr x (li 0) (Ob.arr true 3 []) = Z4h x 0 /\ Zaa x (List.length (Expander.macros x) - 0) (Z4h x 0) /\ LoopSem Tryz.prog (loopAt
 Tryz.f108 0) (Zaa x) (Zlz x) /\ (True -> ObsEq [Ob.arr true 4 (List.map bindingC (Expander.bindings x)), Ob.arr true 3 (List.map rulesC (Expander.macros x))] [Ob.arr
 true 4 (List.map bindingC (Expander.bindings x)), Ob.arr true 3 (List.map rulesC (Expander.macros x))] /\ AV.sv (SV.agg [AC.ref 0, AC.ref 1, vI (Expander.scope x), vI
 (Expander.vari x), vI (Expander.steps x)]) = AV.sv (SV.agg [AC.ref 0, AC.ref 1, vI (Expander.scope x), vI (Expander.vari x), vI (Expander.steps x)])) /\ True)) := by kernel_rfl
theorem Zrr (x : Expander) (h : wX x <= 1048576)  : Zti x := by
  refine CallOK.ofRun wide (Zya x) Tryz.call108 Tryz.func108 rfl rfl rfl ?_
  have g := wX_eq x
  with_reducible repeat' (first | apply And.intro | exact flatI | exact flatS | exact rowLens | (intro; skip) | apply obsN | apply obsC | apply obA | apply obM | apply obB | apply svA | apply tupA | apply lcA | apply lcS | apply svC | apply liC | apply lbC | apply lsC | apply vIc | apply vBc | apply vSc | apply vLc | apply mapC | apply hdI | apply Zr5 | apply Zzt | apply Zog | apply Zfi | apply Zfj)
  all_goals (try simp only [std] at *)
  all_goals (try (first | with_reducible apply Zfi | with_reducible apply Zfj | (simp only [<- List.map_append]; first | with_reducible apply Zfi | with_reducible apply Zfj)))
  all_goals (try (first | with_reducible rfl | omega | assumption | exact dT ‹_› | exact dF ‹_› | ((first | refine rowGet ?_ | refine getC ?_ rfl); (first | omega | (simp only [std]; omega) | grind)) | (show (_ : St) = _; rfl) | grind [snocI, snocS, rowSnoc]))
def cdF (c e : Int) : Int := if c = 0 then e else c
abbrev stO (x : Expander) (z c : Int) : List Ob := [.box [.ref 1, .ref 2, vI x.scope, vI x.vari, vI x.steps, vI z, vI c], .arr true 4 (x.bindings.map bindingC), .arr true 3 (x.macros.map rulesC)]
abbrev stI (x : Expander) (z : Int) : List Ob := [.box [.ref 1, .ref 2, vI x.scope, vI x.vari, vI x.steps, vI z], .arr true 4 (x.bindings.map bindingC), .arr true 3 (x.macros.map rulesC)]
abbrev Zpw (x : Expander) (z : Int) (c : Int) (e : Int) : Prop := CallOK Tryz.prog 187 (stO x z c) [.one (.ptr 0 0), li e] (stO x z (cdF c e)) (.sv (.agg [vI 0, vI 0, .val (.lit (.slice none 0 0)), vI 0, vI 0, vS (mkS []), .val (.lit (.slice none 0 0)), .val (.lit (.slice none 0 0))]))
abbrev Zip  := (SV.agg [vI 0, vI 0, AC.val (Cell.lit (Value.slice none 0 0)), vI 0, vI 0, vS (mkS []), AC.val (Cell.lit (Value.slice none 0 0)), AC.val (Cell.lit
 (Value.slice none 0 0))])
abbrev Zno (x : Expander) (z : Int) (c : Int) (e : Int) := [Ob.box [AC.ref 1, AC.ref 2, vI (Expander.scope x), vI (Expander.vari x), vI (Expander.steps x), vI z, vI (cdF c
 e)], Ob.arr true 4 (List.map bindingC (Expander.bindings x)), Ob.arr true 3 (List.map rulesC (Expander.macros x))]
abbrev Znp  := (SV.agg [vI 0, vI 0, AC.val (Cell.lit (Value.slice none 0 0)), vI 0, vI 0, vS (ByteArray.mk #[]), AC.val (Cell.lit (Value.slice none 0 0)), AC.val (Cell.lit
 (Value.slice none 0 0))])
theorem Zzu (x : Expander) (z : Int) (c : Int) (e : Int) : aexec Tryz.prog (Tryz.f187.body.getD .skip) (entry (stO x z c) [SV.one (AC.ptr 0 0), li e] 15)
 [.br [.fin []] [.fin []]] (finK Tryz.prog [ResultVar.cell 4 30] (stO x z (cdF c e)) (AV.sv Zip)) = ((decide (c = 0) = true -> ObsEq [Ob.box [AC.ref 1, AC.ref 2, vI
 (Expander.scope x), vI (Expander.vari x), vI (Expander.steps x), vI z, vI e], Ob.arr true 4 (List.map bindingC (Expander.bindings x)), Ob.arr true 3 (List.map rulesC
 (Expander.macros x))] (Zno x z c e) /\ AV.sv Znp = AV.sv Zip) /\ (decide (c = 0) = false -> ObsEq [Ob.box [AC.ref 1, AC.ref 2, vI (Expander.scope x), vI
 (Expander.vari x), vI (Expander.steps x), vI z, vI c], Ob.arr true 4 (List.map bindingC (Expander.bindings x)), Ob.arr true 3 (List.map rulesC (Expander.macros x))] (Zno x
 z c e) /\ AV.sv Znp = AV.sv Zip)) := by kernel_rfl
theorem Zj7 (x : Expander) (z c e : Int)  : Zpw x z c e := by
  refine CallOK.ofRun wide (Zzu x z c e) Tryz.call187 Tryz.func187 rfl rfl rfl ?_
  try delta Zip Zno Znp
  with_reducible repeat' (first | apply And.intro | exact flatI | exact flatS | exact rowLens | (intro; skip) | apply obsN | apply obsC | apply obA | apply obM | apply obB | apply svA | apply tupA | apply lcA | apply lcS | apply svC | apply liC | apply lbC | apply lsC | apply vIc | apply vBc | apply vSc | apply vLc | apply mapC)
  all_goals (try simp only [std] at *)
  all_goals (try (first | with_reducible rfl | omega | assumption | exact dT ‹_› | exact dF ‹_› | ((first | refine rowGet ?_ | refine getC ?_ rfl); (first | omega | (simp only [std]; omega) | grind)) | (show (_ : St) = _; rfl) | grind [cdF, snocI, snocS, rowSnoc]))
theorem isExp_scope {x : Expander} (h : isExp x = true) : 0 <= x.scope /\ x.scope <= 99999 /\ 0 <= x.vari /\ x.vari <= 99999 /\ 0 <= x.steps /\ x.steps <= 200 /\ (x.macros.length : Int) <= 200 /\ (x.bindings.length : Int) <= 1000 := by
  simp only [isExp, areB, Bool.and_eq_true, decide_eq_true_eq] at h
  omega
def bdE (x : Expander) (t : ByteArray) (s : List Int) : Int := if clash x.bindings t s = true then 4 else if 1000 <= (x.bindings.length : Int) then 8 else 0
def bdL (x : Expander) (id : Syntax) (kind n : Int) : List Binding := if bdE x id.text id.scopes = 0 then x.bindings ++ [⟨id.text, id.scopes, kind, n⟩] else x.bindings
theorem bdL_yes {x : Expander} {id : Syntax} {kind n : Int} (h : bdE x id.text id.scopes = 0) : bdL x id kind n = x.bindings ++ [⟨id.text, id.scopes, kind, n⟩] := if_pos h
abbrev stV (x : Expander) (z c : Int) : List Ob := [.box [vL (x.bindings.map bindingC), .ref 1, vI x.scope, vI x.vari, vI x.steps, vI z, vI c], .arr true 3 (x.macros.map rulesC)]
abbrev Ziq (x : Expander) (z : Int) (c : Int) (e : Int) : Prop := CallOK Tryz.prog 187 (stV x z c) [.one (.ptr 0 0), li e] (stV x z (cdF c e)) (.sv (.agg [vI 0, vI 0, .val (.lit (.slice none 0 0)), vI 0, vI 0, vS (mkS []), .val (.lit (.slice none 0 0)), .val (.lit (.slice none 0 0))]))
abbrev Zgs  := (SV.agg [vI 0, vI 0, AC.val (Cell.lit (Value.slice none 0 0)), vI 0, vI 0, vS (mkS []), AC.val (Cell.lit (Value.slice none 0 0)), AC.val (Cell.lit
 (Value.slice none 0 0))])
abbrev Zm0 (x : Expander) (z : Int) (c : Int) (e : Int) := [Ob.box [vL (List.map bindingC (Expander.bindings x)), AC.ref 1, vI (Expander.scope x), vI (Expander.vari x), vI
 (Expander.steps x), vI z, vI (cdF c e)], Ob.arr true 3 (List.map rulesC (Expander.macros x))]
abbrev Zm1  := (SV.agg [vI 0, vI 0, AC.val (Cell.lit (Value.slice none 0 0)), vI 0, vI 0, vS (ByteArray.mk #[]), AC.val (Cell.lit (Value.slice none 0 0)), AC.val (Cell.lit
 (Value.slice none 0 0))])
theorem Zyb (x : Expander) (z : Int) (c : Int) (e : Int) : aexec Tryz.prog (Tryz.f187.body.getD .skip) (entry (stV x z c) [SV.one (AC.ptr 0 0), li e] 15)
 [.br [.fin []] [.fin []]] (finK Tryz.prog [ResultVar.cell 4 30] (stV x z (cdF c e)) (AV.sv Zgs)) = ((decide (c = 0) = true -> ObsEq [Ob.box [vL (List.map bindingC
 (Expander.bindings x)), AC.ref 1, vI (Expander.scope x), vI (Expander.vari x), vI (Expander.steps x), vI z, vI e], Ob.arr true 3 (List.map rulesC (Expander.macros x))]
 (Zm0 x z c e) /\ AV.sv Zm1 = AV.sv Zgs) /\ (decide (c = 0) = false -> ObsEq [Ob.box [vL (List.map bindingC (Expander.bindings x)), AC.ref 1, vI
 (Expander.scope x), vI (Expander.vari x), vI (Expander.steps x), vI z, vI c], Ob.arr true 3 (List.map rulesC (Expander.macros x))] (Zm0 x z c e) /\ AV.sv Zm1 =
 AV.sv Zgs)) := by kernel_rfl
theorem Zfm (x : Expander) (z c e : Int)  : Ziq x z c e := by
  refine CallOK.ofRun wide (Zyb x z c e) Tryz.call187 Tryz.func187 rfl rfl rfl ?_
  try delta Zgs Zm0 Zm1
  with_reducible repeat' (first | apply And.intro | exact flatI | exact flatS | exact rowLens | (intro; skip) | apply obsN | apply obsC | apply obA | apply obM | apply obB | apply svA | apply tupA | apply lcA | apply lcS | apply svC | apply liC | apply lbC | apply lsC | apply vIc | apply vBc | apply vSc | apply vLc | apply mapC)
  all_goals (try simp only [std] at *)
  all_goals (try (first | with_reducible rfl | omega | assumption | exact dT ‹_› | exact dF ‹_› | ((first | refine rowGet ?_ | refine getC ?_ rfl); (first | omega | (simp only [std]; omega) | grind)) | (show (_ : St) = _; rfl) | grind [cdF, snocI, snocS, rowSnoc]))
def addB (L : List Binding) (b : Binding) : List Binding := if 1000 <= (L.length : Int) ∨ clash L b.text b.scopes = true then L else L ++ [b]
theorem addB_no {L : List Binding} {b : Binding} (h : 1000 <= (L.length : Int) ∨ clash L b.text b.scopes = true) : addB L b = L := if_pos h
theorem addB_yes {L : List Binding} {b : Binding} (h : ¬ (1000 <= (L.length : Int) ∨ clash L b.text b.scopes = true)) : addB L b = L ++ [b] := if_neg h
abbrev Zyc (L : List Binding) (b : Binding) : Prop := CallOK Tryz.prog 232 [] [ll (L.map bindingC), bindingA b] [] (.tup [ll ((addB L b).map bindingC), lb (!(decide (1000 <= (L.length : Int)) || clash L b.text b.scopes))])
abbrev Zh3 (L : List Binding) (b : Binding) := [ll (List.map bindingC (addB L b)), lb !(decide (1000 ≤ (↑(List.length L) : Int)) || clash L (Binding.text b) (Binding.scopes
 b))]
theorem Z10l (L : List Binding) (b : Binding) : aexec Tryz.prog (Tryz.f232.body.getD .skip) (entry [] [ll (List.map bindingC L), bindingA b] 21) [.br
 [.bool true, .fin []] [.call [Mode.rd, Mode.rd] [] (AV.sv (lb (clash L (Binding.text b) (Binding.scopes b)))), .br [.fin []] [.draw [(5, [1, 10])], .call
 [Mode.rd] [Ob.arr true 4 (List.map bindingC L)] (AV.sv (SV.one (AC.ref 0))), .call [Mode.rd] [Ob.arr true 4 (List.map bindingC [b])] (AV.sv (SV.one (AC.ref 0))), .ghost
 (.lock 18), .fin []]]] (finK Tryz.prog [ResultVar.tmp 4, ResultVar.tmp 5] [] (AV.tup (Zh3 L b))) = (List.length (List.map bindingC L) <= 9223372036854775807 -> (decide
 (1000 <= (↑(List.length (List.map bindingC L)) : Int)) = true -> true = true /\ ObsEq [] [] /\ AV.tup [ll (List.map bindingC L), lb false] = AV.tup (Zh3 L b)) /\ (decide (1000 <=
 (↑(List.length (List.map bindingC L)) : Int)) = false -> Zec L b /\ (clash L (Binding.text b) (Binding.scopes b) = true -> ObsEq [] [] /\ AV.tup [ll (List.map bindingC L), lb
 false] = AV.tup (Zh3 L b)) /\ (clash L (Binding.text b) (Binding.scopes b) = false -> Zbt L /\ Zbt [b] /\ (List.length (List.map bindingC L) + 1) * 56 <=
 140737488355328 /\ ObsEq [] [] /\ AV.tup [ll (List.map bindingC L ++ [bindingF b]), lb true] = AV.tup (Zh3 L b)))) := by kernel_rfl
theorem Zyd (L : List Binding) (b : Binding) (h : L.length <= 1048577 /\ sumBy wB L <= 1048577 /\ wB b <= 1048577)  : Zyc L b := by
  refine CallOK.ofRun wide (Z10l L b) Tryz.call232 Tryz.func232 rfl rfl rfl ?_
  try delta Zh3
  have g : sumBy wB [b] = wB b := rfl
  have g2 : [b].length = 1 := rfl
  have g3 := @addB_no L b
  have g4 := @addB_yes L b
  with_reducible repeat' (first | apply And.intro | exact flatI | exact flatS | exact rowLens | (intro; skip) | apply obsN | apply obsC | apply obA | apply obM | apply obB | apply svA | apply tupA | apply lcA | apply lcS | apply svC | apply liC | apply lbC | apply lsC | apply vIc | apply vBc | apply vSc | apply vLc | apply mapC | apply Z1h | apply Z5i | apply llC)
  all_goals (try simp only [std] at *)
  all_goals (try (first | with_reducible apply Z1h | with_reducible apply Z5i | (simp only [<- List.map_append]; first | with_reducible apply Z1h | with_reducible apply Z5i)))
  all_goals (try (first | with_reducible rfl | omega | assumption | exact dT ‹_› | exact dF ‹_› | ((first | refine rowGet ?_ | refine getC ?_ rfl); (first | omega | (simp only [std]; omega) | grind)) | (show (_ : St) = _; rfl) | grind [snocI, snocS, rowSnoc]))
abbrev Zvs (x : Expander) (z : Int) (c : Int) (id : Syntax) (kind : Int) (n : Int) : Prop := CallOK Tryz.prog 192 (stV x z c) [.one (.ptr 0 0), syntaxA id, li kind, li n] [.box [vL ((bdL x id kind n).map bindingC), .ref 1, vI x.scope, vI x.vari, vI x.steps, vI z, vI (if bdE x id.text id.scopes = 0 then c else cdF c (bdE x id.text id.scopes))], .arr true 3 (x.macros.map rulesC)] (.tup [])
abbrev Zir (x : Expander) (z : Int) (c : Int) (id : Syntax) (kind : Int) (n : Int) := [Ob.box [vL (List.map bindingC (bdL x id kind n)), AC.ref 1, vI (Expander.scope x), vI
 (Expander.vari x), vI (Expander.steps x), vI z, vI (if bdE x (Syntax.text id) (Syntax.scopes id) = 0 then c else cdF c (bdE x (Syntax.text id) (Syntax.scopes id)))], Ob.arr true 3
 (List.map rulesC (Expander.macros x))]
abbrev Znq  := (AV.sv (SV.agg [vI 0, vI 0, AC.val (Cell.lit (Value.slice none 0 0)), vI 0, vI 0, vS (mkS []), AC.val (Cell.lit (Value.slice none 0 0)), AC.val (Cell.lit
 (Value.slice none 0 0))]))
abbrev Zis (x : Expander) (id : Syntax) := (decide (1000 <= (↑(List.length (Expander.bindings x)) : Int)) || clash (Expander.bindings x) (Syntax.text id) (Syntax.scopes id))
theorem Zzv (x : Expander) (z : Int) (c : Int) (id : Syntax) (kind : Int) (n : Int) : aexec Tryz.prog (Tryz.f192.body.getD .skip) (entry (stV x z c)
 [SV.one (AC.ptr 0 0), syntaxA id, li kind, li n] 46) [.draw [], .call [Mode.rd, Mode.rd] [] (AV.sv (lb (clash (Expander.bindings x) (Syntax.text id) (Syntax.scopes id)))),
 .br [.call [Mode.ptr, Mode.rd] (stV x z (cdF c 4)) Znq, .fin []] [.draw [], .call [Mode.rd, Mode.rd] [] (AV.tup [ll (List.map bindingC (addB
 (Expander.bindings x) (Binding.mk (Syntax.text id) (Syntax.scopes id) kind n))), lb !(Zis x id)]), .br [.call [Mode.ptr, Mode.rd] (stV x z (cdF c 8)) Znq,
 .fin []] [.fin []]]] (finK Tryz.prog [] [Ob.box [vL (List.map bindingC (bdL x id kind n)), AC.ref 1, vI (Expander.scope x), vI (Expander.vari x), vI (Expander.steps x), vI
 z, vI (if bdE x (Syntax.text id) (Syntax.scopes id) = 0 then c else cdF c (bdE x (Syntax.text id) (Syntax.scopes id)))], Ob.arr true 3 (List.map rulesC (Expander.macros x))]
 (AV.tup [])) = (Zec (Expander.bindings x) (Binding.mk (Syntax.text id) (Syntax.scopes id) kind n) /\ (clash (Expander.bindings x) (Syntax.text id) (Syntax.scopes id) = true
 -> Ziq x z c 4 /\ ObsEq [Ob.box [vL (List.map bindingC (Expander.bindings x)), AC.ref 1, vI (Expander.scope x), vI (Expander.vari x), vI (Expander.steps x), vI z, vI (cdF c
 4)], Ob.arr true 3 (List.map rulesC (Expander.macros x))] (Zir x z c id kind n) /\ AV.tup [] = AV.tup []) /\ (clash (Expander.bindings x) (Syntax.text id) (Syntax.scopes id)
 = false -> Zyc (Expander.bindings x) (Binding.mk (Syntax.text id) (Syntax.scopes id) kind n) /\ ((!!(Zis x id)) = true -> Ziq x z c 8 /\ ObsEq [Ob.box [vL (List.map
 bindingC (addB (Expander.bindings x) (Binding.mk (Syntax.text id) (Syntax.scopes id) kind n))), AC.ref 1, vI (Expander.scope x), vI (Expander.vari x), vI (Expander.steps x), vI z,
 vI (cdF c 8)], Ob.arr true 3 (List.map rulesC (Expander.macros x))] (Zir x z c id kind n) /\ AV.tup [] = AV.tup []) /\ ((!!(Zis x id)) = false -> ObsEq [Ob.box [vL
 (List.map bindingC (addB (Expander.bindings x) (Binding.mk (Syntax.text id) (Syntax.scopes id) kind n))), AC.ref 1, vI (Expander.scope x), vI (Expander.vari x), vI (Expander.steps
 x), vI z, vI c], Ob.arr true 3 (List.map rulesC (Expander.macros x))] (Zir x z c id kind n) /\ AV.tup [] = AV.tup []))) := by kernel_rfl
theorem Zuv (x : Expander) (z c : Int) (id : Syntax) (kind n : Int) (h : wX x <= 1048576 /\ wY id <= 1048576)  : Zvs x z c id kind n := by
  refine CallOK.ofRun wide (Zzv x z c id kind n) Tryz.call192 Tryz.func192 rfl rfl rfl ?_
  try delta Zir Znq Zis
  have g1 := wX_eq x
  have g2 := wY_eq id
  have g3 : wB ⟨id.text, id.scopes, kind, n⟩ = id.text.size + id.scopes.length := rfl
  have g4 := @addB_no x.bindings ⟨id.text, id.scopes, kind, n⟩
  have g5 := @addB_yes x.bindings ⟨id.text, id.scopes, kind, n⟩
  with_reducible repeat' (first | apply And.intro | exact flatI | exact flatS | exact rowLens | (intro; skip) | apply obsN | apply obsC | apply obA | apply obM | apply obB | apply svA | apply tupA | apply lcA | apply lcS | apply svC | apply liC | apply lbC | apply lsC | apply vIc | apply vBc | apply vSc | apply vLc | apply mapC | apply Z1h | apply Zyd | apply Zfm)
  all_goals (try simp only [std] at *)
  all_goals (try (first | with_reducible apply Z1h | with_reducible apply Zyd | with_reducible apply Zfm | (simp only [<- List.map_append]; first | with_reducible apply Z1h | with_reducible apply Zyd | with_reducible apply Zfm)))
  all_goals (try (first | with_reducible rfl | omega | assumption | exact dT ‹_› | exact dF ‹_› | ((first | refine rowGet ?_ | refine getC ?_ rfl); (first | omega | (simp only [std]; omega) | grind)) | (show (_ : St) = _; rfl) | grind [bdE, bdL, snocI, snocS, rowSnoc]))
def bvE (x : Expander) (id : Syntax) : Int := if 99999 <= x.vari then 8 else bdE x id.text id.scopes
abbrev Zye (x : Expander) (z : Int) (c : Int) (id : Syntax) : Prop := CallOK Tryz.prog 114 (stV x z c) [.one (.ptr 0 0), syntaxA id] [.box [vL ((if 99999 <= x.vari then x.bindings else bdL x id 3 (x.vari + 1)).map bindingC), .ref 1, vI x.scope, vI (if 99999 <= x.vari then x.vari else x.vari + 1), vI x.steps, vI z, vI (if bvE x id = 0 then c else cdF c (bvE x id))], .arr true 3 (x.macros.map rulesC)] (.sv (li (if 99999 <= x.vari then 0 else x.vari + 1)))
abbrev Zkr (x : Expander) (z : Int) (c : Int) (id : Syntax) := [Ob.box [vL (List.map bindingC (if 99999 ≤ Expander.vari x then Expander.bindings x else bdL x id 3
 (Expander.vari x + 1))), AC.ref 1, vI (Expander.scope x), vI (if 99999 ≤ Expander.vari x then Expander.vari x else Expander.vari x + 1), vI (Expander.steps x), vI z, vI (if bvE x
 id = 0 then c else cdF c (bvE x id))], Ob.arr true 3 (List.map rulesC (Expander.macros x))]
theorem Z10m (x : Expander) (z : Int) (c : Int) (id : Syntax) : aexec Tryz.prog (Tryz.f114.body.getD .skip) (entry (stV x z c) [SV.one (AC.ptr 0 0), syntaxA
 id] 36) [.br [.call [Mode.ptr, Mode.rd] (stV x z (cdF c 8)) (AV.sv (SV.agg [vI 0, vI 0, AC.val (Cell.lit (Value.slice none 0 0)), vI 0, vI 0, vS (mkS []), AC.val (Cell.lit
 (Value.slice none 0 0)), AC.val (Cell.lit (Value.slice none 0 0))])), .fin []] [.draw [(8, [0, 1])], .call [Mode.ptr, Mode.rd, Mode.rd, Mode.rd] [Ob.box [vL (List.map
 bindingC (bdL x id 3 (Expander.vari x + 1))), AC.ref 1, vI (Expander.scope x), vI (Expander.vari x), vI (Expander.steps x), vI z, vI (if bdE x (Syntax.text id) (Syntax.scopes id)
 = 0 then c else cdF c (bdE x (Syntax.text id) (Syntax.scopes id)))], Ob.arr true 3 (List.map rulesC (Expander.macros x))] (AV.tup []), .fin []]] (finK Tryz.prog [ResultVar.tmp
 4] (Zkr x z c id) (AV.sv (li (if 99999 <= Expander.vari x then 0 else Expander.vari x + 1)))) = ((decide (99999 <= Expander.vari x) = true -> Ziq x z c 8 /\ ObsEq [Ob.box
 [vL (List.map bindingC (Expander.bindings x)), AC.ref 1, vI (Expander.scope x), vI (Expander.vari x), vI (Expander.steps x), vI z, vI (cdF c 8)], Ob.arr true 3 (List.map rulesC
 (Expander.macros x))] (Zkr x z c id) /\ AV.sv (li 0) = AV.sv (li (if 99999 <= Expander.vari x then 0 else Expander.vari x + 1))) /\ (decide (99999 <= Expander.vari x) = false ->
 rng .i64 (Expander.vari x + 1) /\ Zvs x z c id 3 (Expander.vari x + 1) /\ rng .i64 (Expander.vari x + 1) /\ ObsEq [Ob.box [vL (List.map bindingC (bdL x id 3
 (Expander.vari x + 1))), AC.ref 1, vI (Expander.scope x), vI (Expander.vari x + 1), vI (Expander.steps x), vI z, vI (if bdE x (Syntax.text id) (Syntax.scopes id) = 0 then c else
 cdF c (bdE x (Syntax.text id) (Syntax.scopes id)))], Ob.arr true 3 (List.map rulesC (Expander.macros x))] (Zkr x z c id) /\ AV.sv (li (Expander.vari x + 1)) = AV.sv (li (if
 99999 <= Expander.vari x then 0 else Expander.vari x + 1)))) := by kernel_rfl
theorem Z11f (x : Expander) (z c : Int) (id : Syntax) (h : wX x <= 1048576 /\ wY id <= 1048576 /\ 0 <= x.vari)  : Zye x z c id := by
  refine CallOK.ofRun wide (Z10m x z c id) Tryz.call114 Tryz.func114 rfl rfl rfl ?_
  try delta Zkr
  have g2 : bvE x id = if 99999 <= x.vari then 8 else bdE x id.text id.scopes := rfl
  with_reducible repeat' (first | apply And.intro | exact flatI | exact flatS | exact rowLens | (intro; skip) | apply obsN | apply obsC | apply obA | apply obM | apply obB | apply svA | apply tupA | apply lcA | apply lcS | apply svC | apply liC | apply lbC | apply lsC | apply vIc | apply vBc | apply vSc | apply vLc | apply mapC | apply Zfm | apply Zuv)
  all_goals (try simp only [std] at *)
  all_goals (try (first | with_reducible apply Zfm | with_reducible apply Zuv | (simp only [<- List.map_append]; first | with_reducible apply Zfm | with_reducible apply Zuv)))
  all_goals (try (first | with_reducible rfl | omega | assumption | exact dT ‹_› | exact dF ‹_› | ((first | refine rowGet ?_ | refine getC ?_ rfl); (first | omega | (simp only [std]; omega) | grind)) | (show (_ : St) = _; rfl) | grind [snocI, snocS, rowSnoc]))
def idX (x : Expander) (id : Syntax) : Bool := isExp x && isId id && blw x.scope id
def bvB (x : Expander) (id : Syntax) : Bool := idX x id && decide (bvE x id = 0)
def bvL (x : Expander) (id : Syntax) : List Binding := if bvB x id = true then x.bindings ++ [⟨id.text, id.scopes, 3, x.vari + 1⟩] else x.bindings
def bvV (x : Expander) (id : Syntax) : Int := if bvB x id = true then x.vari + 1 else x.vari
def bvN (x : Expander) (id : Syntax) : Int := if bvB x id = true then x.vari + 1 else 0
abbrev Zrs (x : Expander) (id : Syntax) : Prop := CallOK Tryz.prog 113 [] [expanderA x, syntaxA id] [] (.sv (lb (idX x id)))
theorem Z10n (x : Expander) (id : Syntax) : aexec Tryz.prog (Tryz.f113.body.getD .skip) (entry [] [expanderA x, syntaxA id] 17) [.call [Mode.rd] []
 (AV.sv (lb (isExp x))), .br [.call [Mode.rd] [] (AV.sv (lb (decide (Syntax.kind id = 1) && isSyn id))), .br [.call [Mode.rd, Mode.rd] [] (AV.sv (lb (blw
 (Expander.scope x) id))), .fin []] [.fin []]] [.bool false, .fin []]] (finK Tryz.prog [ResultVar.tmp 4] [] (AV.sv (lb (idX x id)))) = (Ztc x /\ (isExp x = true ->
 Zgz id /\ ((decide (Syntax.kind id = 1) && isSyn id) = true -> Z5z id (Expander.scope x) /\ ObsEq [] [] /\ AV.sv (lb (blw (Expander.scope x) id)) = AV.sv (lb (idX x id)))
 /\ ((decide (Syntax.kind id = 1) && isSyn id) = false -> ObsEq [] [] /\ AV.sv (lb false) = AV.sv (lb (idX x id)))) /\ (isExp x = false -> false = false /\ ObsEq [] [] /\ AV.sv (lb false)
 = AV.sv (lb (idX x id)))) := by kernel_rfl
theorem Zmt (x : Expander) (id : Syntax) (h : wX x <= 1048576)  : Zrs x id := by
  refine CallOK.ofRun wide (Z10n x id) Tryz.call113 Tryz.func113 rfl rfl rfl ?_
  with_reducible repeat' (first | apply And.intro | exact flatI | exact flatS | exact rowLens | (intro; skip) | apply obsN | apply obsC | apply obA | apply obM | apply obB | apply svA | apply tupA | apply lcA | apply lcS | apply svC | apply liC | apply lbC | apply lsC | apply vIc | apply vBc | apply vSc | apply vLc | apply mapC | apply Zrp | apply Z1b | apply Z5h)
  all_goals (try simp only [std] at *)
  all_goals (try (first | with_reducible apply Zrp | with_reducible apply Z1b | with_reducible apply Z5h | (simp only [<- List.map_append]; first | with_reducible apply Zrp | with_reducible apply Z1b | with_reducible apply Z5h)))
  all_goals (try (first | with_reducible rfl | omega | assumption | exact dT ‹_› | exact dF ‹_› | ((first | refine rowGet ?_ | refine getC ?_ rfl); (first | omega | (simp only [std]; omega) | grind)) | (show (_ : St) = _; rfl) | grind [idX, isId, snocI, snocS, rowSnoc]))
abbrev Zyf (x : Expander) (z : Int) (id : Syntax) : Prop := CallOK Tryz.prog 117 (stI x z) [.one (.ptr 0 0), syntaxA id] ([.box [.ref 3, .ref 2, vI x.scope, vI (if bvE x id = 0 then x.vari + 1 else x.vari), vI x.steps, vI z], .dead, .arr true 3 (x.macros.map rulesC), .arr true 4 ((if bvE x id = 0 then x.bindings ++ [⟨id.text, id.scopes, 3, x.vari + 1⟩] else x.bindings).map bindingC)]) (.tup [li (if bvE x id = 0 then x.vari + 1 else 0), li (bvE x id)])
abbrev Zh4 (x : Expander) (z : Int) (id : Syntax) := [Ob.box [AC.ref 3, AC.ref 2, vI (Expander.scope x), vI (if bvE x id = 0 then Expander.vari x + 1 else Expander.vari x),
 vI (Expander.steps x), vI z], Ob.dead, Ob.arr true 3 (List.map rulesC (Expander.macros x)), Ob.arr true 4 (List.map bindingC (if bvE x id = 0 then Expander.bindings x ++
 [Binding.mk (Syntax.text id) (Syntax.scopes id) 3 (Expander.vari x + 1)] else Expander.bindings x))]
abbrev Zks (x : Expander) (z : Int) := [Ob.box [AC.ref 3, AC.ref 2, vI (Expander.scope x), vI (Expander.vari x), vI (Expander.steps x), vI z], Ob.dead, Ob.arr true 3
 (List.map rulesC (Expander.macros x)), Ob.arr true 4 (List.map bindingC (Expander.bindings x))]
abbrev Zdl (x : Expander) (id : Syntax) := [li (if bvE x id = 0 then Expander.vari x + 1 else 0), li (bvE x id)]
theorem Z10o (x : Expander) (z : Int) (id : Syntax) : aexec Tryz.prog (Tryz.f117.body.getD .skip) (entry (stI x z) [SV.one (AC.ptr 0 0), syntaxA id] 65)
 [.br [.ghost (.move 1), .fin [4]] [.draw [], .call [Mode.rd, Mode.rd, Mode.rd] [] (AV.sv (lb (clash (Expander.bindings x) (Syntax.text id) (Syntax.scopes
 id)))), .br [.ghost (.move 1), .fin [4]] [.br [.ghost (.move 1), .fin [4]] [.draw [(17, [4]), (18, [1, 12]), (22, [0])], .call [Mode.rd] [Ob.arr
 true 1 (List.map intC (Syntax.scopes id))] (AV.sv (SV.one (AC.ref 0))), .fin [13]]]]] (finK Tryz.prog [ResultVar.tmp 4, ResultVar.tmp 5] [Ob.box [AC.ref 3, AC.ref 2, vI
 (Expander.scope x), vI (if bvE x id = 0 then Expander.vari x + 1 else Expander.vari x), vI (Expander.steps x), vI z], Ob.dead, Ob.arr true 3 (List.map rulesC (Expander.macros x)),
 Ob.arr true 4 (List.map bindingC (if bvE x id = 0 then Expander.bindings x ++ [Binding.mk (Syntax.text id) (Syntax.scopes id) 3 (Expander.vari x + 1)] else Expander.bindings x))]
 (AV.tup (Zdl x id))) = ((decide (99999 <= Expander.vari x) = true -> ObsEq (Zks x z) (Zh4 x z id) /\ AV.tup [li 0, li 8] = AV.tup (Zdl x id)) /\ (decide (99999
 <= Expander.vari x) = false -> Zt9 (Expander.bindings x) (Syntax.text id) (Syntax.scopes id) /\ (clash (Expander.bindings x) (Syntax.text id) (Syntax.scopes id) = true -> ObsEq
 (Zks x z) (Zh4 x z id) /\ AV.tup [li 0, li 4] = AV.tup (Zdl x id)) /\ (clash (Expander.bindings x) (Syntax.text id) (Syntax.scopes id) = false -> List.length
 (List.map bindingC (Expander.bindings x)) <= 9223372036854775807 -> (decide (1000 <= (↑(List.length (List.map bindingC (Expander.bindings x))) : Int)) = true -> ObsEq (Zks x z)
 (Zh4 x z id) /\ AV.tup [li 0, li 8] = AV.tup (Zdl x id)) /\ (decide (1000 <= (↑(List.length (List.map bindingC (Expander.bindings x))) : Int)) = false -> rng .i64
 (Expander.vari x + 1) /\ Ze4 (Syntax.scopes id) /\ (List.length (List.map bindingC (Expander.bindings x)) + 1) * 56 <= 140737488355328 /\ ObsEq [Ob.box [AC.ref 3, AC.ref 2, vI
 (Expander.scope x), vI (Expander.vari x + 1), vI (Expander.steps x), vI z], Ob.dead, Ob.arr true 3 (List.map rulesC (Expander.macros x)), Ob.arr true 4 (List.map bindingC
 (Expander.bindings x) ++ [[cS (Syntax.text id), Cell.list (List.map intC (Syntax.scopes id)), cI 3, cI (Expander.vari x + 1)]])] (Zh4 x z id) /\ AV.tup [li (Expander.vari x +
 1), li 0] = AV.tup (Zdl x id))))) := by kernel_rfl
theorem Zyg (x : Expander) (z : Int) (id : Syntax) (h : wX x <= 1048576 /\ wY id <= 1048576 /\ 0 <= x.vari)  : Zyf x z id := by
  refine CallOK.ofRun wide (Z10o x z id) Tryz.call117 Tryz.func117 rfl rfl rfl ?_
  try delta Zh4 Zks Zdl
  have g1 := wX_eq x
  have g2 := wY_eq id
  have g3 : x.bindings.map bindingC ++ [[cS id.text, Cell.list (id.scopes.map intC), cI 3, cI (x.vari + 1)]] = (x.bindings ++ [(⟨id.text, id.scopes, 3, x.vari + 1⟩ : Binding)]).map bindingC := rowSnoc (C := bindingC) x.bindings ⟨id.text, id.scopes, 3, x.vari + 1⟩
  with_reducible repeat' (first | apply And.intro | exact flatI | exact flatS | exact rowLens | (intro; skip) | apply obsN | apply obsC | apply obA | apply obM | apply obB | apply svA | apply tupA | apply lcA | apply lcS | apply svC | apply liC | apply lbC | apply lsC | apply vIc | apply vBc | apply vSc | apply vLc | apply mapC | apply Zrk | apply Z5e)
  all_goals (try simp only [std] at *)
  all_goals (try (first | with_reducible apply Zrk | with_reducible apply Z5e | (simp only [<- List.map_append]; first | with_reducible apply Zrk | with_reducible apply Z5e)))
  all_goals (try (first | with_reducible rfl | omega | assumption | exact dT ‹_› | exact dF ‹_› | ((first | refine rowGet ?_ | refine getC ?_ rfl); (first | omega | (simp only [std]; omega) | grind)) | (show (_ : St) = _; rfl) | grind [bvE, bdE, snocI, snocS, rowSnoc]))
abbrev Znr (x : Expander) (id : Syntax) : Prop := CallOK Tryz.prog 52 [] [expanderA x, syntaxA id] [.arr true 4 ((bvL x id).map bindingC), .arr true 3 (x.macros.map rulesC)] (.tup [.agg [.ref 0, .ref 1, vI x.scope, vI (bvV x id), vI x.steps], li (bvN x id)])
abbrev Zcf (x : Expander) (id : Syntax) := [SV.agg [AC.ref 0, AC.ref 1, vI (Expander.scope x), vI (bvV x id), vI (Expander.steps x)], li (bvN x id)]
abbrev Zcg (x : Expander) (id : Syntax) := [Ob.arr true 4 (List.map bindingC (bvL x id)), Ob.arr true 3 (List.map rulesC (Expander.macros x))]
abbrev Zgt (x : Expander) := [SV.agg [AC.ref 0, AC.ref 1, vI (Expander.scope x), vI (Expander.vari x), vI (Expander.steps x)], li 0]
abbrev Zgu (x : Expander) := [Ob.arr true 4 (List.map bindingC (Expander.bindings x)), Ob.arr true 3 (List.map rulesC (Expander.macros x))]
theorem Zyh (x : Expander) (id : Syntax) : aexec Tryz.prog (Tryz.f52.body.getD .skip) (entry [] [expanderA x, syntaxA id] 37) [.call [Mode.rd]
 (expanderO x) (AV.sv (expanderR x 0)), .call [Mode.rd] [] (AV.sv (lb (isExp x))), .br [.bool true, .bool true, .fin [3, 4]] [.call [Mode.rd] [] (AV.sv (lb
 (decide (Syntax.kind id = 1) && isSyn id))), .br [.bool true, .fin [3, 4]] [.call [Mode.rd, Mode.rd] [] (AV.sv (lb (blw (Expander.scope x) id))), .br [.fin [3,
 4]] [.call [Mode.ptr, Mode.rd] [Ob.box [AC.ref 3, AC.ref 2, vI (Expander.scope x), vI (if bvE x id = 0 then Expander.vari x + 1 else Expander.vari x), vI (Expander.steps x), vI
 0], Ob.dead, Ob.arr true 3 (List.map rulesC (Expander.macros x)), Ob.arr true 4 (List.map bindingC (if bvE x id = 0 then Expander.bindings x ++ [Binding.mk (Syntax.text id)
 (Syntax.scopes id) 3 (Expander.vari x + 1)] else Expander.bindings x))] (AV.tup [li (if bvE x id = 0 then Expander.vari x + 1 else 0), li (bvE x id)]), .fin [9, 4]]]]] (finK
 Tryz.prog [ResultVar.cell 4 49, ResultVar.tmp 5] [Ob.arr true 4 (List.map bindingC (bvL x id)), Ob.arr true 3 (List.map rulesC (Expander.macros x))] (AV.tup [SV.agg [AC.ref 0,
 AC.ref 1, vI (Expander.scope x), vI (bvV x id), vI (Expander.steps x)], li (bvN x id)])) = (Zti x /\ Ztd x /\ ((!isExp x) = true -> true = true /\ true = true /\ ObsEq
 (Zgu x) (Zcg x id) /\ AV.tup (Zgt x) = AV.tup (Zcf x id)) /\ ((!isExp x) = false -> Zh0 id /\ ((!(decide (Syntax.kind id = 1) && isSyn id)) =
 true -> true = true /\ ObsEq (Zgu x) (Zcg x id) /\ AV.tup (Zgt x) = AV.tup (Zcf x id)) /\ ((!(decide (Syntax.kind id = 1) && isSyn id)) = false ->
 Z60 id (Expander.scope x) /\ ((!blw (Expander.scope x) id) = true -> ObsEq (Zgu x) (Zcg x id) /\ AV.tup (Zgt x) = AV.tup (Zcf x id)) /\ ((!blw
 (Expander.scope x) id) = false -> Zyf x 0 id /\ ObsEq [Ob.arr true 4 (List.map bindingC (if bvE x id = 0 then Expander.bindings x ++ [Binding.mk (Syntax.text id) (Syntax.scopes
 id) 3 (Expander.vari x + 1)] else Expander.bindings x)), Ob.arr true 3 (List.map rulesC (Expander.macros x))] (Zcg x id) /\ AV.tup [SV.agg [AC.ref 0, AC.ref 1, vI
 (Expander.scope x), vI (if bvE x id = 0 then Expander.vari x + 1 else Expander.vari x), vI (Expander.steps x)], li (if bvE x id = 0 then Expander.vari x + 1 else 0)] = AV.tup
 (Zcf x id))))) := by kernel_rfl
theorem Zrt (x : Expander) (id : Syntax) (h : wX x <= 1048576 /\ wY id <= 1048576)  : Znr x id := by
  refine CallOK.ofRun wide (Zyh x id) Tryz.call52 Tryz.func52 rfl rfl rfl ?_
  try delta Zcf Zcg Zgt Zgu
  have g1 := @isExp_scope x
  with_reducible repeat' (first | apply And.intro | exact flatI | exact flatS | exact rowLens | (intro; skip) | apply obsN | apply obsC | apply obA | apply obM | apply obB | apply svA | apply tupA | apply lcA | apply lcS | apply svC | apply liC | apply lbC | apply lsC | apply vIc | apply vBc | apply vSc | apply vLc | apply mapC | apply Zrq | apply Z1c | apply Z9i | apply Zrr | apply Zyg)
  all_goals (try simp only [std] at *)
  all_goals (try (first | with_reducible apply Zrq | with_reducible apply Z1c | with_reducible apply Z9i | with_reducible apply Zrr | with_reducible apply Zyg | (simp only [<- List.map_append]; first | with_reducible apply Zrq | with_reducible apply Z1c | with_reducible apply Z9i | with_reducible apply Zrr | with_reducible apply Zyg)))
  all_goals (try (first | with_reducible rfl | omega | assumption | exact dT ‹_› | exact dF ‹_› | ((first | refine rowGet ?_ | refine getC ?_ rfl); (first | omega | (simp only [std]; omega) | grind)) | (show (_ : St) = _; rfl) | grind [bvL, bvV, bvN, bvB, idX, isId, snocI, snocS, rowSnoc]))
def bmE (x : Expander) (id : Syntax) : Int := if 200 <= (x.macros.length : Int) then 8 else bdE x id.text id.scopes
end Go.Proofs.YtegbadciefljcaaGreat
end
section
namespace Go.Proofs.YtegbadciefljcaaGreat
open Go Go.Proofs.YtegbadciefljcaaGreat.Ab
set_option linter.unusedVariables false
set_option linter.unusedSimpArgs false
set_option maxHeartbeats 4000000
abbrev Zvt (L : List Binding) (b : Binding) : Prop := CallOK Tryz.prog 232 [.arr true 4 (L.map bindingC)] [.one (.ref 0), bindingA b] [.dead, .arr true 4 ((addB L b).map bindingC)] (.tup [.one (.ref 1), lb (!(decide (1000 <= (L.length : Int)) || clash L b.text b.scopes))])
abbrev Zer (L : List Binding) (b : Binding) := [SV.one (AC.ref 1), lb !(decide (1000 ≤ (↑(List.length L) : Int)) || clash L (Binding.text b) (Binding.scopes b))]
abbrev Zes (L : List Binding) (b : Binding) := [Ob.dead, Ob.arr true 4 (List.map bindingC (addB L b))]
theorem Zzw (L : List Binding) (b : Binding) : aexec Tryz.prog (Tryz.f232.body.getD .skip) (entry [Ob.arr true 4 (List.map bindingC L)] [SV.one (AC.ref
 0), bindingA b] 21) [.br [.bool true, .ghost (.move 0), .fin [2]] [.call [Mode.rd, Mode.rd] [] (AV.sv (lb (clash L (Binding.text b) (Binding.scopes b)))),
 .br [.ghost (.move 0), .fin [2]] [.draw [(5, [2, 11])], .call [Mode.rd] [Ob.arr true 4 (List.map bindingC L)] (AV.sv (SV.one (AC.ref 0))), .call [Mode.rd]
 [Ob.arr true 4 (List.map bindingC [b])] (AV.sv (SV.one (AC.ref 0))), .ghost (.move 0), .fin [19]]]] (finK Tryz.prog [ResultVar.tmp 4, ResultVar.tmp 5] (Zes L b)
 (AV.tup (Zer L b))) = (List.length (List.map bindingC L) <= 9223372036854775807 -> (decide (1000 <= (↑(List.length (List.map bindingC L)) : Int)) = true -> true = true /\ ObsEq
 [Ob.dead, Ob.arr true 4 (List.map bindingC L)] (Zes L b) /\ AV.tup [SV.one (AC.ref 1), lb false] = AV.tup (Zer L b)) /\ (decide (1000 <= (↑(List.length (List.map
 bindingC L)) : Int)) = false -> Zec L b /\ (clash L (Binding.text b) (Binding.scopes b) = true -> ObsEq [Ob.dead, Ob.arr true 4 (List.map bindingC L)] (Zes L b) /\
 AV.tup [SV.one (AC.ref 1), lb false] = AV.tup (Zer L b)) /\ (clash L (Binding.text b) (Binding.scopes b) = false -> Zbt L /\ Zbt [b] /\ (List.length (List.map
 bindingC L) + 1) * 56 <= 140737488355328 /\ ObsEq [Ob.dead, Ob.arr true 4 (List.map bindingC L ++ [bindingF b])] (Zes L b) /\ AV.tup [SV.one (AC.ref 1), lb true] = AV.tup
 (Zer L b)))) := by kernel_rfl
theorem Z11e (L : List Binding) (b : Binding) (h : L.length <= 1048577 /\ sumBy wB L <= 1048577 /\ wB b <= 1048577)  : Zvt L b := by
  refine CallOK.ofRun wide (Zzw L b) Tryz.call232 Tryz.func232 rfl rfl rfl ?_
  try delta Zer Zes
  have g : sumBy wB [b] = wB b := rfl
  have g2 : [b].length = 1 := rfl
  have g3 := @addB_no L b
  have g4 := @addB_yes L b
  with_reducible repeat' (first | apply And.intro | exact flatI | exact flatS | exact rowLens | (intro; skip) | apply obsN | apply obsC | apply obA | apply obM | apply obB | apply svA | apply tupA | apply lcA | apply lcS | apply svC | apply liC | apply lbC | apply lsC | apply vIc | apply vBc | apply vSc | apply vLc | apply mapC | apply Z1h | apply Z5i)
  all_goals (try simp only [std] at *)
  all_goals (try (first | with_reducible apply Z1h | with_reducible apply Z5i | (simp only [<- List.map_append]; first | with_reducible apply Z1h | with_reducible apply Z5i)))
  all_goals (try (first | with_reducible rfl | omega | assumption | exact dT ‹_› | exact dF ‹_› | ((first | refine rowGet ?_ | refine getC ?_ rfl); (first | omega | (simp only [std]; omega) | grind)) | (show (_ : St) = _; rfl) | grind [snocI, snocS, rowSnoc]))
end Go.Proofs.YtegbadciefljcaaGreat
end
