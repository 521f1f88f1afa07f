/- The program's Instantiate returns what the reference's returns, for all arguments. No condition. -/
import Derived.Test.YtegbadciefljcaaInsC3
section
namespace Go.Proofs.Ytegbadciefljcaa
open Go Go.Proofs.Ytegbadciefljcaa.Ab
set_option linter.unusedVariables false
set_option linter.unusedSimpArgs false
set_option maxHeartbeats 4000000
abbrev P_c_szIntS (L : List Int) (left : Int) : Prop := CallOK Try.prog 43 [] [ll (L.map intC), li left] [] (.sv (li (sz L.length left)))
theorem run_c_szIntS (L : List Int) (left : Int) : aexec Try.prog (Option.getD (Func.body Try.f43) Code.skip) (entry [] [ll (List.map intC L), li left] 12) [Orc.br [Orc.fin []]
 [Orc.fin []]] (finK Try.prog [ResultVar.tmp 4] [] (AV.sv (li (sz (List.length L) left)))) = (List.length (List.map intC L) ≤ 9223372036854775807 → rng IntKind.i64 (left -
 (↑(List.length (List.map intC L)) : Int)) ∧ (decide (left - (↑(List.length (List.map intC L)) : Int) < 0) = true → ObsEq [] [] ∧ AV.sv (li (-1 : Int)) = AV.sv (li (sz (List.length
 L) left))) ∧ (decide (left - (↑(List.length (List.map intC L)) : Int) < 0) = false → ObsEq [] [] ∧ AV.sv (li (left - (↑(List.length (List.map intC L)) : Int))) = AV.sv (li (sz
 (List.length L) left)))) := by kernel_rfl
theorem c_szIntS (L : List Int) (left : Int) (h0 : 0 ≤ left) (h : left ≤ 2147483647)  : P_c_szIntS L left := by
  refine CallOK.ofRun wide (run_c_szIntS L left) Try.call43 Try.func43 rfl rfl rfl ?_
  with_reducible repeat' (first | apply And.intro | exact flatI | exact flatS | exact rowLens | (intro; skip) | apply obsN | apply obsC | apply obA | apply obM | apply obB | apply svA | apply tupA | apply lcA | apply lcS | apply svC | apply liC | apply lbC | apply lsC | apply vIc | apply vBc | apply vSc | apply vLc | apply mapC)
  all_goals (try simp only [std] at *)
  all_goals (try (first | with_reducible rfl | omega | assumption | (refine (decide_eq_true ?_).symm; assumption) | (refine (decide_eq_false ?_).symm; assumption) | (refine rowGet ?_; (first | omega | (simp only [std]; omega) | grind)) | (refine getC ?_ rfl; (first | omega | (simp only [std]; omega) | grind)) | (show (_ : St) = _; rfl) | grind [sz, snocI, snocS, rowSnoc]))
abbrev P_c_szSyntaxS (L : List Syntax) (left : Int) : Prop := CallOK Try.prog 44 [] [ll (L.map syntaxC), li left] [] (.sv (li (sz (L.length + sumBy wY L) left)))
abbrev P_c_szSyntax (x : Syntax) (left : Int) : Prop := CallOK Try.prog 15 [] [syntaxA x, li left] [] (.sv (li (sz (wY x) left)))
def Tc_szSyntaxSLa (L : List Syntax) (left : Int) (x0 : SV) (x1 : SV) : St := St.mk (regsOf 27 [(0, AV.sv (ll (List.map syntaxC L))), (1, AV.sv x1), (5, AV.sv x0)]) [] 0 
def Lc_szSyntaxSLa (L : List Syntax) (left : Int) (k : Nat × Int) : St := Tc_szSyntaxSLa L left (li (↑(Prod.fst k) : Int)) (li (Prod.snd k)) 
def Ic_szSyntaxSLa (L : List Syntax) (left : Int) : Nat → St → Prop := Head (Lc_szSyntaxSLa L left) (fun k => Prod.fst k ≤ List.length L ∧ List.length L ≤ 9223372036854775807 ∧ 0 ≤
 Prod.snd k ∧ Prod.snd k ≤ left ∧ sz (sumBy wY (List.drop (Prod.fst k) L)) (Prod.snd k) = sz (List.length L + sumBy wY L) left) fun k => List.length L - Prod.fst k 
def W0c_szSyntaxSLa (L : List Syntax) (left : Int) (x0 : SV) : St := St.mk (regsOf 27 [(1, AV.sv x0)]) [] 0 
def W1c_szSyntaxSLa (L : List Syntax) (left : Int) (x0 : SV) : St := St.mk (regsOf 27 [(4, AV.sv x0)]) [] 0 
def Yc_szSyntaxSLa (L : List Syntax) (left : Int) : List (Prop × AEx × St) := [(0 ≤ sz (List.length L + sumBy wY L) left, AEx.exit 0, W0c_szSyntaxSLa L left (li (sz (List.length L
 + sumBy wY L) left))), (sz (List.length L + sumBy wY L) left = (-1 : Int), AEx.ret, W1c_szSyntaxSLa L left (li (-1 : Int)))]
theorem Hc_szSyntaxSLa {L : List Syntax} {left : Int} {k : Nat × Int} {m : Nat} (h : (fun k => Prod.fst k ≤ List.length L ∧ List.length L ≤ 9223372036854775807 ∧ 0 ≤ Prod.snd k ∧
 Prod.snd k ≤ left ∧ sz (sumBy wY (List.drop (Prod.fst k) L)) (Prod.snd k) = sz (List.length L + sumBy wY L) left) k) (hm : (fun k => List.length L - Prod.fst k) k = m) :
 Ic_szSyntaxSLa L left m (Lc_szSyntaxSLa L left k) := hm ▸ Head.mk h
theorem Ec_szSyntaxSLa {L : List Syntax} {left : Int} {k : Nat × Int} {x0 : SV} {x1 : SV} (h0 : x0 = (li (↑(Prod.fst k) : Int))) (h1 : x1 = (li (Prod.snd k))) : Tc_szSyntaxSLa L
 left x0 x1 = Lc_szSyntaxSLa L left k := by
  rw [h0, h1]
  rfl
theorem EW0c_szSyntaxSLa {L : List Syntax} {left : Int} {x0 y0 : SV} (h0 : x0 = y0) : W0c_szSyntaxSLa L left x0 = W0c_szSyntaxSLa L left y0 := by rw [h0]
theorem EW1c_szSyntaxSLa {L : List Syntax} {left : Int} {x0 y0 : SV} (h0 : x0 = y0) : W1c_szSyntaxSLa L left x0 = W1c_szSyntaxSLa L left y0 := by rw [h0]
theorem run_c_szSyntaxSLa (L : List Syntax) (left : Int) (k : Nat × Int) : aexec Try.prog (loopAt Try.f44 0) (Lc_szSyntaxSLa L left k) [Orc.br [Orc.cells (syntaxF (List.getD L
 (Prod.fst k) default)), Orc.call [Mode.rd, Mode.rd] [] (AV.sv (li (sz (wY (List.getD L (Prod.fst k) default)) (Prod.snd k)))), Orc.br [Orc.ghost (Ghost.sel [] [4]), Orc.out 1]
 [Orc.ghost (Ghost.sel [] [0, 1, 5]), Orc.goto (List.length L - (Prod.fst k + 1)) (Lc_szSyntaxSLa L left (Prod.fst k + 1, sz (wY (List.getD L (Prod.fst k) default)) (Prod.snd
 k)))]] [Orc.ghost (Ghost.sel [] [1]), Orc.out 0]] (loopK (Ic_szSyntaxSLa L left) (Yc_szSyntaxSLa L left) (List.length L - Prod.fst k)) = (List.length (List.map syntaxC L) ≤
 9223372036854775807 → (decide ((↑(Prod.fst k) : Int) < (↑(List.length (List.map syntaxC L)) : Int)) = true → (0 ≤ (↑(Prod.fst k) : Int) ∧ (List.map syntaxC L)[Int.toNat
 (↑(Prod.fst k) : Int)]? = some (syntaxF (List.getD L (Prod.fst k) default))) ∧ P_c_szSyntax (List.getD L (Prod.fst k) default) (Prod.snd k) ∧ (decide (sz (wY (List.getD L
 (Prod.fst k) default)) (Prod.snd k) < 0) = true → sz (List.length L + sumBy wY L) left = (-1 : Int) ∧ W1c_szSyntaxSLa L left (li (-1 : Int)) = W1c_szSyntaxSLa L left (li (-1 :
 Int))) ∧ (decide (sz (wY (List.getD L (Prod.fst k) default)) (Prod.snd k) < 0) = false → rng IntKind.i64 ((↑(Prod.fst k) : Int) + 1) ∧ List.length L - (Prod.fst k + 1) <
 List.length L - Prod.fst k ∧ Tc_szSyntaxSLa L left (li ((↑(Prod.fst k) : Int) + 1)) (li (sz (wY (List.getD L (Prod.fst k) default)) (Prod.snd k))) = Lc_szSyntaxSLa L left
 (Prod.fst k + 1, sz (wY (List.getD L (Prod.fst k) default)) (Prod.snd k)) ∧ Ic_szSyntaxSLa L left (List.length L - (Prod.fst k + 1)) (Lc_szSyntaxSLa L left (Prod.fst k + 1, sz (wY
 (List.getD L (Prod.fst k) default)) (Prod.snd k))))) ∧ (decide ((↑(Prod.fst k) : Int) < (↑(List.length (List.map syntaxC L)) : Int)) = false → 0 ≤ sz (List.length L + sumBy wY L)
 left ∧ W0c_szSyntaxSLa L left (li (Prod.snd k)) = W0c_szSyntaxSLa L left (li (sz (List.length L + sumBy wY L) left)))) := by kernel_rfl
theorem Sc_szSyntaxSLa (L : List Syntax) (left : Int) (h0 : 0 ≤ left) (h : left ≤ 2147483647) (ih : ∀ (x : Syntax), x ∈ L → ∀ (left : Int), 0 ≤ left → left ≤ 2147483647 →
 P_c_szSyntax x left)  : LoopSem Try.prog (loopAt Try.f44 0) (Ic_szSyntaxSLa L left) (Yc_szSyntaxSLa L left) := by
  refine LoopSem.ofHead wide fun k h => ⟨_, _, run_c_szSyntaxSLa L left k, ?_⟩
  obtain ⟨i, n⟩ := k
  simp only at *
  with_reducible repeat' (first | apply And.intro | exact flatI | exact flatS | exact rowLens | exact ih | (intro; skip) | apply obsN | apply obsC | apply obA | apply obM | apply obB | apply svA | apply tupA | apply lcA | apply lcS | apply svC | apply liC | apply lbC | apply lsC | apply vIc | apply vBc | apply vSc | apply vLc | apply mapC | apply Hc_szSyntaxSLa | apply Ec_szSyntaxSLa | apply EW0c_szSyntaxSLa | apply EW1c_szSyntaxSLa | apply ih)
  all_goals (try simp only [std] at *)
  all_goals (try (first | with_reducible apply ih | (simp only [← List.map_append]; first | with_reducible apply ih)))
  all_goals (try (first | with_reducible rfl | omega | assumption | (refine (decide_eq_true ?_).symm; assumption) | (refine (decide_eq_false ?_).symm; assumption) | (refine rowGet ?_; (first | omega | (simp only [std]; omega) | grind)) | (refine getC ?_ rfl; (first | omega | (simp only [std]; omega) | grind)) | (show (_ : St) = _; rfl) | grind [drop_get, sumBy, sz, getD_mem', snocI, snocS, rowSnoc]))
theorem run_c_szSyntaxS (L : List Syntax) (left : Int) : aexec Try.prog (Option.getD (Func.body Try.f44) Code.skip) (entry [] [ll (List.map syntaxC L), li left] 27) [Orc.br
 [Orc.fin []] [Orc.ghost (Ghost.sel [] [0, 1, 5]), Orc.loop (List.length L - 0) (Lc_szSyntaxSLa L left (0, left - (↑(List.length L) : Int))) (Ic_szSyntaxSLa L left) [(0 ≤ sz
 (List.length L + sumBy wY L) left, AEx.exit 0, W0c_szSyntaxSLa L left (li (sz (List.length L + sumBy wY L) left)), [Orc.fin []]), (sz (List.length L + sumBy wY L) left = (-1 :
 Int), AEx.ret, W1c_szSyntaxSLa L left (li (-1 : Int)), [Orc.fin []])]]] (finK Try.prog [ResultVar.tmp 4] [] (AV.sv (li (sz (List.length L + sumBy wY L) left)))) = (List.length
 (List.map syntaxC L) ≤ 9223372036854775807 → rng IntKind.i64 (left - (↑(List.length (List.map syntaxC L)) : Int)) ∧ (decide (left - (↑(List.length (List.map syntaxC L)) : Int) <
 0) = true → ObsEq [] [] ∧ AV.sv (li (-1 : Int)) = AV.sv (li (sz (List.length L + sumBy wY L) left))) ∧ (decide (left - (↑(List.length (List.map syntaxC L)) : Int) < 0) = false →
 Tc_szSyntaxSLa L left (li 0) (li (left - (↑(List.length (List.map syntaxC L)) : Int))) = Lc_szSyntaxSLa L left (0, left - (↑(List.length L) : Int)) ∧ Ic_szSyntaxSLa L left
 (List.length L - 0) (Lc_szSyntaxSLa L left (0, left - (↑(List.length L) : Int))) ∧ LoopSem Try.prog (loopAt Try.f44 0) (Ic_szSyntaxSLa L left) (Yc_szSyntaxSLa L left) ∧
 (Int.NonNeg (sz (List.length L + sumBy wY L) left - 0) → ObsEq [] [] ∧ AV.sv (li (sz (List.length L + sumBy wY L) left)) = AV.sv (li (sz (List.length L + sumBy wY L) left))) ∧ (sz
 (List.length L + sumBy wY L) left = (-1 : Int) → ObsEq [] [] ∧ AV.sv (li (-1 : Int)) = AV.sv (li (sz (List.length L + sumBy wY L) left))) ∧ True)) := by kernel_rfl
theorem c_szSyntaxS (L : List Syntax) (left : Int) (h0 : 0 ≤ left) (h : left ≤ 2147483647) (ih : ∀ x ∈ L, ∀ (left : Int) (h0 : 0 ≤ left) (h : left ≤ 2147483647), P_c_szSyntax x
 left)  : P_c_szSyntaxS L left := by
  refine CallOK.ofRun wide (run_c_szSyntaxS L left) Try.call44 Try.func44 rfl rfl rfl ?_
  with_reducible repeat' (first | apply And.intro | exact flatI | exact flatS | exact rowLens | exact ih | (intro; skip) | apply obsN | apply obsC | apply obA | apply obM | apply obB | apply svA | apply tupA | apply lcA | apply lcS | apply svC | apply liC | apply lbC | apply lsC | apply vIc | apply vBc | apply vSc | apply vLc | apply mapC | apply Hc_szSyntaxSLa | apply Ec_szSyntaxSLa | apply Sc_szSyntaxSLa | apply EW0c_szSyntaxSLa | apply EW1c_szSyntaxSLa)
  all_goals (try simp only [std] at *)
  all_goals (try (first | with_reducible apply ih | (simp only [← List.map_append]; first | with_reducible apply ih)))
  all_goals (try (first | with_reducible rfl | omega | assumption | (refine (decide_eq_true ?_).symm; assumption) | (refine (decide_eq_false ?_).symm; assumption) | (refine rowGet ?_; (first | omega | (simp only [std]; omega) | grind)) | (refine getC ?_ rfl; (first | omega | (simp only [std]; omega) | grind)) | (show (_ : St) = _; rfl) | grind [sz, snocI, snocS, rowSnoc]))
theorem run_c_szSyntax_s (x : Syntax) (left : Int) : aexec Try.prog (Option.getD (Func.body Try.f15) Code.skip) (entry [] [syntaxA x, li left] 25) [Orc.br [Orc.fin []] [Orc.call
 [Mode.rd, Mode.rd] [] (AV.sv (li (sz (List.length (Syntax.scopes x)) (left - (↑(List.length (Array.toList (ByteArray.data (Syntax.text x)))) : Int))))), Orc.br [Orc.fin []]
 [Orc.call [Mode.rd, Mode.rd] [] (AV.sv (li (sz (List.length (Syntax.items x) + sumBy wY (Syntax.items x)) (sz (List.length (Syntax.scopes x)) (left - (↑(List.length (Array.toList
 (ByteArray.data (Syntax.text x)))) : Int)))))), Orc.br [Orc.fin []] [Orc.fin []]]]] (finK Try.prog [ResultVar.tmp 4] [] (AV.sv (li (sz (wY x) left)))) = (List.length (Array.toList
 (ByteArray.data (Syntax.text x))) ≤ 9223372036854775807 → rng IntKind.i64 (left - (↑(List.length (Array.toList (ByteArray.data (Syntax.text x)))) : Int)) ∧ (decide (left -
 (↑(List.length (Array.toList (ByteArray.data (Syntax.text x)))) : Int) < 0) = true → ObsEq [] [] ∧ AV.sv (li (-1 : Int)) = AV.sv (li (sz (wY x) left))) ∧ (decide (left -
 (↑(List.length (Array.toList (ByteArray.data (Syntax.text x)))) : Int) < 0) = false → P_c_szIntS (Syntax.scopes x) (left - (↑(List.length (Array.toList (ByteArray.data
 (Syntax.text x)))) : Int)) ∧ (decide (sz (List.length (Syntax.scopes x)) (left - (↑(List.length (Array.toList (ByteArray.data (Syntax.text x)))) : Int)) < 0) = true → ObsEq [] []
 ∧ AV.sv (li (-1 : Int)) = AV.sv (li (sz (wY x) left))) ∧ (decide (sz (List.length (Syntax.scopes x)) (left - (↑(List.length (Array.toList (ByteArray.data (Syntax.text x)))) :
 Int)) < 0) = false → P_c_szSyntaxS (Syntax.items x) (sz (List.length (Syntax.scopes x)) (left - (↑(List.length (Array.toList (ByteArray.data (Syntax.text x)))) : Int))) ∧ (decide
 (sz (List.length (Syntax.items x) + sumBy wY (Syntax.items x)) (sz (List.length (Syntax.scopes x)) (left - (↑(List.length (Array.toList (ByteArray.data (Syntax.text x)))) : Int)))
 < 0) = true → ObsEq [] [] ∧ AV.sv (li (-1 : Int)) = AV.sv (li (sz (wY x) left))) ∧ (decide (sz (List.length (Syntax.items x) + sumBy wY (Syntax.items x)) (sz (List.length
 (Syntax.scopes x)) (left - (↑(List.length (Array.toList (ByteArray.data (Syntax.text x)))) : Int))) < 0) = false → ObsEq [] [] ∧ AV.sv (li (sz (List.length (Syntax.items x) +
 sumBy wY (Syntax.items x)) (sz (List.length (Syntax.scopes x)) (left - (↑(List.length (Array.toList (ByteArray.data (Syntax.text x)))) : Int))))) = AV.sv (li (sz (wY x) left))))))
 := by kernel_rfl
theorem c_szSyntax_s (x : Syntax) (left : Int) (h0 : 0 ≤ left) (h : left ≤ 2147483647) (ih : ∀ z ∈ x.items, ∀ (left : Int) (h0 : 0 ≤ left) (h : left ≤ 2147483647), P_c_szSyntax z
 left)  : P_c_szSyntax x left := by
  refine CallOK.ofRun wide (run_c_szSyntax_s x left) Try.call15 Try.func15 rfl rfl rfl ?_
  with_reducible repeat' (first | apply And.intro | exact flatI | exact flatS | exact rowLens | exact ih | (intro; skip) | apply obsN | apply obsC | apply obA | apply obM | apply obB | apply svA | apply tupA | apply lcA | apply lcS | apply svC | apply liC | apply lbC | apply lsC | apply vIc | apply vBc | apply vSc | apply vLc | apply mapC | apply c_szIntS | apply c_szSyntaxS | apply ih)
  all_goals (try simp only [std] at *)
  all_goals (try (first | with_reducible apply c_szIntS | with_reducible apply c_szSyntaxS | with_reducible apply ih | (simp only [← List.map_append]; first | with_reducible apply c_szIntS | with_reducible apply c_szSyntaxS | with_reducible apply ih)))
  all_goals (try (first | with_reducible rfl | omega | assumption | (refine (decide_eq_true ?_).symm; assumption) | (refine (decide_eq_false ?_).symm; assumption) | (refine rowGet ?_; (first | omega | (simp only [std]; omega) | grind)) | (refine getC ?_ rfl; (first | omega | (simp only [std]; omega) | grind)) | (show (_ : St) = _; rfl) | grind [wY_eq, sz, wS, snocI, snocS, rowSnoc]))
theorem c_szSyntax (x : Syntax) : ∀ (left : Int) (h0 : 0 ≤ left) (h : left ≤ 2147483647), P_c_szSyntax x left := Syntax.ind (P := fun x => ∀ (left : Int) (h0 : 0 ≤ left) (h : left ≤ 2147483647), P_c_szSyntax x left) (fun x ih left h0 h => c_szSyntax_s x left h0 h ih) x
abbrev P_c_szCaptureS (L : List Capture) (left : Int) : Prop := CallOK Try.prog 16 [] [ll (L.map captureC), li left] [] (.sv (li (sz (L.length + sumBy wP L) left)))
abbrev P_c_szCapture (x : Capture) (left : Int) : Prop := CallOK Try.prog 45 [] [captureA x, li left] [] (.sv (li (sz (wP x) left)))
def Tc_szCaptureSLa (L : List Capture) (left : Int) (x0 : SV) (x1 : SV) : St := St.mk (regsOf 27 [(0, AV.sv (ll (List.map captureC L))), (1, AV.sv x1), (5, AV.sv x0)]) [] 0 
def Lc_szCaptureSLa (L : List Capture) (left : Int) (k : Nat × Int) : St := Tc_szCaptureSLa L left (li (↑(Prod.fst k) : Int)) (li (Prod.snd k)) 
def Ic_szCaptureSLa (L : List Capture) (left : Int) : Nat → St → Prop := Head (Lc_szCaptureSLa L left) (fun k => Prod.fst k ≤ List.length L ∧ List.length L ≤ 9223372036854775807 ∧
 0 ≤ Prod.snd k ∧ Prod.snd k ≤ left ∧ sz (sumBy wP (List.drop (Prod.fst k) L)) (Prod.snd k) = sz (List.length L + sumBy wP L) left) fun k => List.length L - Prod.fst k 
def W0c_szCaptureSLa (L : List Capture) (left : Int) (x0 : SV) : St := St.mk (regsOf 27 [(1, AV.sv x0)]) [] 0 
def W1c_szCaptureSLa (L : List Capture) (left : Int) (x0 : SV) : St := St.mk (regsOf 27 [(4, AV.sv x0)]) [] 0 
def Yc_szCaptureSLa (L : List Capture) (left : Int) : List (Prop × AEx × St) := [(0 ≤ sz (List.length L + sumBy wP L) left, AEx.exit 0, W0c_szCaptureSLa L left (li (sz (List.length
 L + sumBy wP L) left))), (sz (List.length L + sumBy wP L) left = (-1 : Int), AEx.ret, W1c_szCaptureSLa L left (li (-1 : Int)))]
theorem Hc_szCaptureSLa {L : List Capture} {left : Int} {k : Nat × Int} {m : Nat} (h : (fun k => Prod.fst k ≤ List.length L ∧ List.length L ≤ 9223372036854775807 ∧ 0 ≤ Prod.snd k ∧
 Prod.snd k ≤ left ∧ sz (sumBy wP (List.drop (Prod.fst k) L)) (Prod.snd k) = sz (List.length L + sumBy wP L) left) k) (hm : (fun k => List.length L - Prod.fst k) k = m) :
 Ic_szCaptureSLa L left m (Lc_szCaptureSLa L left k) := hm ▸ Head.mk h
theorem Ec_szCaptureSLa {L : List Capture} {left : Int} {k : Nat × Int} {x0 : SV} {x1 : SV} (h0 : x0 = (li (↑(Prod.fst k) : Int))) (h1 : x1 = (li (Prod.snd k))) : Tc_szCaptureSLa L
 left x0 x1 = Lc_szCaptureSLa L left k := by
  rw [h0, h1]
  rfl
theorem EW0c_szCaptureSLa {L : List Capture} {left : Int} {x0 y0 : SV} (h0 : x0 = y0) : W0c_szCaptureSLa L left x0 = W0c_szCaptureSLa L left y0 := by rw [h0]
theorem EW1c_szCaptureSLa {L : List Capture} {left : Int} {x0 y0 : SV} (h0 : x0 = y0) : W1c_szCaptureSLa L left x0 = W1c_szCaptureSLa L left y0 := by rw [h0]
theorem run_c_szCaptureSLa (L : List Capture) (left : Int) (k : Nat × Int) : aexec Try.prog (loopAt Try.f16 0) (Lc_szCaptureSLa L left k) [Orc.br [Orc.cells (captureF (List.getD L
 (Prod.fst k) default)), Orc.call [Mode.rd, Mode.rd] [] (AV.sv (li (sz (wP (List.getD L (Prod.fst k) default)) (Prod.snd k)))), Orc.br [Orc.ghost (Ghost.sel [] [4]), Orc.out 1]
 [Orc.ghost (Ghost.sel [] [0, 1, 5]), Orc.goto (List.length L - (Prod.fst k + 1)) (Lc_szCaptureSLa L left (Prod.fst k + 1, sz (wP (List.getD L (Prod.fst k) default)) (Prod.snd
 k)))]] [Orc.ghost (Ghost.sel [] [1]), Orc.out 0]] (loopK (Ic_szCaptureSLa L left) (Yc_szCaptureSLa L left) (List.length L - Prod.fst k)) = (List.length (List.map captureC L) ≤
 9223372036854775807 → (decide ((↑(Prod.fst k) : Int) < (↑(List.length (List.map captureC L)) : Int)) = true → (0 ≤ (↑(Prod.fst k) : Int) ∧ (List.map captureC L)[Int.toNat
 (↑(Prod.fst k) : Int)]? = some (captureF (List.getD L (Prod.fst k) default))) ∧ P_c_szCapture (List.getD L (Prod.fst k) default) (Prod.snd k) ∧ (decide (sz (wP (List.getD L
 (Prod.fst k) default)) (Prod.snd k) < 0) = true → sz (List.length L + sumBy wP L) left = (-1 : Int) ∧ W1c_szCaptureSLa L left (li (-1 : Int)) = W1c_szCaptureSLa L left (li (-1 :
 Int))) ∧ (decide (sz (wP (List.getD L (Prod.fst k) default)) (Prod.snd k) < 0) = false → rng IntKind.i64 ((↑(Prod.fst k) : Int) + 1) ∧ List.length L - (Prod.fst k + 1) <
 List.length L - Prod.fst k ∧ Tc_szCaptureSLa L left (li ((↑(Prod.fst k) : Int) + 1)) (li (sz (wP (List.getD L (Prod.fst k) default)) (Prod.snd k))) = Lc_szCaptureSLa L left
 (Prod.fst k + 1, sz (wP (List.getD L (Prod.fst k) default)) (Prod.snd k)) ∧ Ic_szCaptureSLa L left (List.length L - (Prod.fst k + 1)) (Lc_szCaptureSLa L left (Prod.fst k + 1, sz
 (wP (List.getD L (Prod.fst k) default)) (Prod.snd k))))) ∧ (decide ((↑(Prod.fst k) : Int) < (↑(List.length (List.map captureC L)) : Int)) = false → 0 ≤ sz (List.length L + sumBy
 wP L) left ∧ W0c_szCaptureSLa L left (li (Prod.snd k)) = W0c_szCaptureSLa L left (li (sz (List.length L + sumBy wP L) left)))) := by kernel_rfl
theorem Sc_szCaptureSLa (L : List Capture) (left : Int) (h0 : 0 ≤ left) (h : left ≤ 2147483647) (ih : ∀ (x : Capture), x ∈ L → ∀ (left : Int), 0 ≤ left → left ≤ 2147483647 →
 P_c_szCapture x left)  : LoopSem Try.prog (loopAt Try.f16 0) (Ic_szCaptureSLa L left) (Yc_szCaptureSLa L left) := by
  refine LoopSem.ofHead wide fun k h => ⟨_, _, run_c_szCaptureSLa L left k, ?_⟩
  obtain ⟨i, n⟩ := k
  simp only at *
  with_reducible repeat' (first | apply And.intro | exact flatI | exact flatS | exact rowLens | exact ih | (intro; skip) | apply obsN | apply obsC | apply obA | apply obM | apply obB | apply svA | apply tupA | apply lcA | apply lcS | apply svC | apply liC | apply lbC | apply lsC | apply vIc | apply vBc | apply vSc | apply vLc | apply mapC | apply Hc_szCaptureSLa | apply Ec_szCaptureSLa | apply EW0c_szCaptureSLa | apply EW1c_szCaptureSLa | apply ih)
  all_goals (try simp only [std] at *)
  all_goals (try (first | with_reducible apply ih | (simp only [← List.map_append]; first | with_reducible apply ih)))
  all_goals (try (first | with_reducible rfl | omega | assumption | (refine (decide_eq_true ?_).symm; assumption) | (refine (decide_eq_false ?_).symm; assumption) | (refine rowGet ?_; (first | omega | (simp only [std]; omega) | grind)) | (refine getC ?_ rfl; (first | omega | (simp only [std]; omega) | grind)) | (show (_ : St) = _; rfl) | grind [drop_get, sumBy, sz, getD_mem', snocI, snocS, rowSnoc]))
theorem run_c_szCaptureS (L : List Capture) (left : Int) : aexec Try.prog (Option.getD (Func.body Try.f16) Code.skip) (entry [] [ll (List.map captureC L), li left] 27) [Orc.br
 [Orc.fin []] [Orc.ghost (Ghost.sel [] [0, 1, 5]), Orc.loop (List.length L - 0) (Lc_szCaptureSLa L left (0, left - (↑(List.length L) : Int))) (Ic_szCaptureSLa L left) [(0 ≤ sz
 (List.length L + sumBy wP L) left, AEx.exit 0, W0c_szCaptureSLa L left (li (sz (List.length L + sumBy wP L) left)), [Orc.fin []]), (sz (List.length L + sumBy wP L) left = (-1 :
 Int), AEx.ret, W1c_szCaptureSLa L left (li (-1 : Int)), [Orc.fin []])]]] (finK Try.prog [ResultVar.tmp 4] [] (AV.sv (li (sz (List.length L + sumBy wP L) left)))) = (List.length
 (List.map captureC L) ≤ 9223372036854775807 → rng IntKind.i64 (left - (↑(List.length (List.map captureC L)) : Int)) ∧ (decide (left - (↑(List.length (List.map captureC L)) : Int)
 < 0) = true → ObsEq [] [] ∧ AV.sv (li (-1 : Int)) = AV.sv (li (sz (List.length L + sumBy wP L) left))) ∧ (decide (left - (↑(List.length (List.map captureC L)) : Int) < 0) = false
 → Tc_szCaptureSLa L left (li 0) (li (left - (↑(List.length (List.map captureC L)) : Int))) = Lc_szCaptureSLa L left (0, left - (↑(List.length L) : Int)) ∧ Ic_szCaptureSLa L left
 (List.length L - 0) (Lc_szCaptureSLa L left (0, left - (↑(List.length L) : Int))) ∧ LoopSem Try.prog (loopAt Try.f16 0) (Ic_szCaptureSLa L left) (Yc_szCaptureSLa L left) ∧
 (Int.NonNeg (sz (List.length L + sumBy wP L) left - 0) → ObsEq [] [] ∧ AV.sv (li (sz (List.length L + sumBy wP L) left)) = AV.sv (li (sz (List.length L + sumBy wP L) left))) ∧ (sz
 (List.length L + sumBy wP L) left = (-1 : Int) → ObsEq [] [] ∧ AV.sv (li (-1 : Int)) = AV.sv (li (sz (List.length L + sumBy wP L) left))) ∧ True)) := by kernel_rfl
theorem c_szCaptureS (L : List Capture) (left : Int) (h0 : 0 ≤ left) (h : left ≤ 2147483647) (ih : ∀ x ∈ L, ∀ (left : Int) (h0 : 0 ≤ left) (h : left ≤ 2147483647), P_c_szCapture x
 left)  : P_c_szCaptureS L left := by
  refine CallOK.ofRun wide (run_c_szCaptureS L left) Try.call16 Try.func16 rfl rfl rfl ?_
  with_reducible repeat' (first | apply And.intro | exact flatI | exact flatS | exact rowLens | exact ih | (intro; skip) | apply obsN | apply obsC | apply obA | apply obM | apply obB | apply svA | apply tupA | apply lcA | apply lcS | apply svC | apply liC | apply lbC | apply lsC | apply vIc | apply vBc | apply vSc | apply vLc | apply mapC | apply Hc_szCaptureSLa | apply Ec_szCaptureSLa | apply Sc_szCaptureSLa | apply EW0c_szCaptureSLa | apply EW1c_szCaptureSLa)
  all_goals (try simp only [std] at *)
  all_goals (try (first | with_reducible apply ih | (simp only [← List.map_append]; first | with_reducible apply ih)))
  all_goals (try (first | with_reducible rfl | omega | assumption | (refine (decide_eq_true ?_).symm; assumption) | (refine (decide_eq_false ?_).symm; assumption) | (refine rowGet ?_; (first | omega | (simp only [std]; omega) | grind)) | (refine getC ?_ rfl; (first | omega | (simp only [std]; omega) | grind)) | (show (_ : St) = _; rfl) | grind [sz, snocI, snocS, rowSnoc]))
theorem run_c_szCapture_s (x : Capture) (left : Int) : aexec Try.prog (Option.getD (Func.body Try.f45) Code.skip) (entry [] [captureA x, li left] 24) [Orc.call [Mode.rd, Mode.rd]
 [] (AV.sv (li (sz (wY (Capture.name x)) left))), Orc.br [Orc.fin []] [Orc.call [Mode.rd, Mode.rd] [] (AV.sv (li (sz (wY (Capture.form x)) (sz (wY (Capture.name x)) left)))),
 Orc.br [Orc.fin []] [Orc.call [Mode.rd, Mode.rd] [] (AV.sv (li (sz (List.length (Capture.each x) + sumBy wP (Capture.each x)) (sz (wY (Capture.form x)) (sz (wY (Capture.name x))
 left))))), Orc.br [Orc.fin []] [Orc.fin []]]]] (finK Try.prog [ResultVar.tmp 4] [] (AV.sv (li (sz (wP x) left)))) = (P_c_szSyntax (Capture.name x) left ∧ (decide (sz (wY
 (Capture.name x)) left < 0) = true → ObsEq [] [] ∧ AV.sv (li (-1 : Int)) = AV.sv (li (sz (wP x) left))) ∧ (decide (sz (wY (Capture.name x)) left < 0) = false → P_c_szSyntax
 (Capture.form x) (sz (wY (Capture.name x)) left) ∧ (decide (sz (wY (Capture.form x)) (sz (wY (Capture.name x)) left) < 0) = true → ObsEq [] [] ∧ AV.sv (li (-1 : Int)) = AV.sv (li
 (sz (wP x) left))) ∧ (decide (sz (wY (Capture.form x)) (sz (wY (Capture.name x)) left) < 0) = false → P_c_szCaptureS (Capture.each x) (sz (wY (Capture.form x)) (sz (wY
 (Capture.name x)) left)) ∧ (decide (sz (List.length (Capture.each x) + sumBy wP (Capture.each x)) (sz (wY (Capture.form x)) (sz (wY (Capture.name x)) left)) < 0) = true → ObsEq []
 [] ∧ AV.sv (li (-1 : Int)) = AV.sv (li (sz (wP x) left))) ∧ (decide (sz (List.length (Capture.each x) + sumBy wP (Capture.each x)) (sz (wY (Capture.form x)) (sz (wY (Capture.name
 x)) left)) < 0) = false → ObsEq [] [] ∧ AV.sv (li (sz (List.length (Capture.each x) + sumBy wP (Capture.each x)) (sz (wY (Capture.form x)) (sz (wY (Capture.name x)) left)))) =
 AV.sv (li (sz (wP x) left)))))) := by kernel_rfl
theorem c_szCapture_s (x : Capture) (left : Int) (h0 : 0 ≤ left) (h : left ≤ 2147483647) (ih : ∀ z ∈ x.each, ∀ (left : Int) (h0 : 0 ≤ left) (h : left ≤ 2147483647), P_c_szCapture z
 left)  : P_c_szCapture x left := by
  refine CallOK.ofRun wide (run_c_szCapture_s x left) Try.call45 Try.func45 rfl rfl rfl ?_
  with_reducible repeat' (first | apply And.intro | exact flatI | exact flatS | exact rowLens | exact ih | (intro; skip) | apply obsN | apply obsC | apply obA | apply obM | apply obB | apply svA | apply tupA | apply lcA | apply lcS | apply svC | apply liC | apply lbC | apply lsC | apply vIc | apply vBc | apply vSc | apply vLc | apply mapC | apply c_szSyntax | apply c_szCaptureS | apply ih)
  all_goals (try simp only [std] at *)
  all_goals (try (first | with_reducible apply c_szSyntax | with_reducible apply c_szCaptureS | with_reducible apply ih | (simp only [← List.map_append]; first | with_reducible apply c_szSyntax | with_reducible apply c_szCaptureS | with_reducible apply ih)))
  all_goals (try (first | with_reducible rfl | omega | assumption | (refine (decide_eq_true ?_).symm; assumption) | (refine (decide_eq_false ?_).symm; assumption) | (refine rowGet ?_; (first | omega | (simp only [std]; omega) | grind)) | (refine getC ?_ rfl; (first | omega | (simp only [std]; omega) | grind)) | (show (_ : St) = _; rfl) | grind [wP_eq, sz, wS, snocI, snocS, rowSnoc]))
theorem c_szCapture (x : Capture) : ∀ (left : Int) (h0 : 0 ≤ left) (h : left ≤ 2147483647), P_c_szCapture x left := Capture.ind (P := fun x => ∀ (left : Int) (h0 : 0 ≤ left) (h : left ≤ 2147483647), P_c_szCapture x left) (fun x ih left h0 h => c_szCapture_s x left h0 h ih) x
end Go.Proofs.Ytegbadciefljcaa
end
section
namespace Go.Proofs.Ytegbadciefljcaa
open Go Go.Proofs.Ytegbadciefljcaa.Ab
set_option linter.unusedVariables false
set_option linter.unusedSimpArgs false
set_option maxHeartbeats 4000000
abbrev P_c_toIntS (L : List Int) : Prop := CallOK Try.prog 49 [] [ll (L.map intC)] [.arr true 1 (L.map intC)] (.sv (.one (.ref 0)))
def Tc_toIntSLa (L : List Int) (x0 : SV) (x1 : Ob) : St := St.mk (regsOf 22 [(0, AV.sv (ll (List.map intC L))), (3, AV.sv (SV.one (AC.ref 0))), (4, AV.sv x0)]) [x1] 0 
def Lc_toIntSLa (L : List Int) (k : Nat) : St := Tc_toIntSLa L (li (↑k : Int)) (Ob.arr true 1 (List.map intC (fillTo L k))) 
def Ic_toIntSLa (L : List Int) : Nat → St → Prop := Head (Lc_toIntSLa L) (fun k => k ≤ List.length L ∧ List.length L ≤ 9223372036854775807) fun k => List.length L - k 
def W0c_toIntSLa (L : List Int) (x0 : Ob) : St := St.mk (regsOf 22 [(3, AV.sv (SV.one (AC.ref 0)))]) [x0] 0 
def Yc_toIntSLa (L : List Int) : List (Prop × AEx × St) := [(True, AEx.exit 0, W0c_toIntSLa L (Ob.arr true 1 (List.map intC L)))]
theorem Hc_toIntSLa {L : List Int} {k : Nat} {m : Nat} (h : (fun k => k ≤ List.length L ∧ List.length L ≤ 9223372036854775807) k) (hm : (fun k => List.length L - k) k = m) :
 Ic_toIntSLa L m (Lc_toIntSLa L k) := hm ▸ Head.mk h
theorem Ec_toIntSLa {L : List Int} {k : Nat} {x0 : SV} {x1 : Ob} (h0 : x0 = (li (↑k : Int))) (h1 : x1 = (Ob.arr true 1 (List.map intC (fillTo L k)))) : Tc_toIntSLa L x0 x1 =
 Lc_toIntSLa L k := by
  rw [h0, h1]
  rfl
theorem EW0c_toIntSLa {L : List Int} {x0 y0 : Ob} (h0 : x0 = y0) : W0c_toIntSLa L x0 = W0c_toIntSLa L y0 := by rw [h0]
theorem run_c_toIntSLa (L : List Int) (k : Nat) : aexec Try.prog (loopAt Try.f49 0) (Lc_toIntSLa L k) [Orc.br [Orc.cells (intC (List.getD L k default)), Orc.cells (intC (List.getD
 (fillTo L k) (Int.toNat (↑k : Int)) default)), Orc.ghost (Ghost.sel [0] [0, 3, 4]), Orc.goto (List.length L - (k + 1)) (Lc_toIntSLa L (k + 1))] [Orc.ghost (Ghost.sel [0] [3]),
 Orc.out 0]] (loopK (Ic_toIntSLa L) (Yc_toIntSLa L) (List.length L - k)) = (List.length (List.map intC L) ≤ 9223372036854775807 → (decide ((↑k : Int) < (↑(List.length (List.map
 intC L)) : Int)) = true → (0 ≤ (↑k : Int) ∧ (List.map intC L)[Int.toNat (↑k : Int)]? = some [cI (List.getD L k 0)]) ∧ (0 ≤ (↑k : Int) ∧ Int.toNat (↑k : Int) < List.length
 (List.map intC (fillTo L k))) ∧ (List.map intC (fillTo L k))[Int.toNat (↑k : Int)]? = some [cI (List.getD (fillTo L k) (Int.toNat (↑k : Int)) 0)] ∧ rng IntKind.i64 ((↑k : Int) +
 1) ∧ List.length L - (k + 1) < List.length L - k ∧ Tc_toIntSLa L (li ((↑k : Int) + 1)) (Ob.arr true 1 (List.set (List.map intC (fillTo L k)) (Int.toNat (↑k : Int)) [cI (List.getD
 L k 0)])) = Lc_toIntSLa L (k + 1) ∧ Ic_toIntSLa L (List.length L - (k + 1)) (Lc_toIntSLa L (k + 1))) ∧ (decide ((↑k : Int) < (↑(List.length (List.map intC L)) : Int)) = false →
 True ∧ W0c_toIntSLa L (Ob.arr true 1 (List.map intC (fillTo L k))) = W0c_toIntSLa L (Ob.arr true 1 (List.map intC L)))) := by kernel_rfl
theorem Sc_toIntSLa (L : List Int) (h : List.length L ≤ 1048576)  : LoopSem Try.prog (loopAt Try.f49 0) (Ic_toIntSLa L) (Yc_toIntSLa L) := by
  refine LoopSem.ofHead wide fun k h => ⟨_, _, run_c_toIntSLa L k, ?_⟩
  with_reducible repeat' (first | apply And.intro | exact flatI | exact flatS | exact rowLens | (intro; skip) | apply obsN | apply obsC | apply obA | apply obM | apply obB | apply svA | apply tupA | apply lcA | apply lcS | apply svC | apply liC | apply lbC | apply lsC | apply vIc | apply vBc | apply vSc | apply vLc | apply mapC | apply Hc_toIntSLa | apply Ec_toIntSLa | apply EW0c_toIntSLa)
  all_goals (try simp only [std] at *)
  all_goals (try (first | with_reducible rfl | omega | assumption | (refine (decide_eq_true ?_).symm; assumption) | (refine (decide_eq_false ?_).symm; assumption) | (refine rowGet ?_; (first | omega | (simp only [std]; omega) | grind)) | (refine getC ?_ rfl; (first | omega | (simp only [std]; omega) | grind)) | (refine fill_step ?_ ?_; (first | omega | (simp only [std]; omega) | grind); (first | rfl | exact (Row.eq _).trans rfl)) | (refine fill_init ?_; (first | rfl | exact (Row.eq _).trans rfl)) | (show (_ : St) = _; rfl) | grind [fillTo_all, snocI, snocS, rowSnoc]))
theorem run_c_toIntS (L : List Int) : aexec Try.prog (Option.getD (Func.body Try.f49) Code.skip) (entry [] [ll (List.map intC L)] 22) [Orc.ghost (Ghost.sel [0] [0, 3, 4]), Orc.loop
 (List.length L - 0) (Lc_toIntSLa L 0) (Ic_toIntSLa L) [(True, AEx.exit 0, W0c_toIntSLa L (Ob.arr true 1 (List.map intC L)), [Orc.fin [0]])]] (finK Try.prog [ResultVar.tmp 2]
 [Ob.arr true 1 (List.map intC L)] (AV.sv (SV.one (AC.ref 0)))) = (List.length (List.map intC L) ≤ 9223372036854775807 → (0 ≤ (↑(List.length (List.map intC L)) : Int) ∧ 8 *
 Int.toNat (↑(List.length (List.map intC L)) : Int) ≤ 281474976710656) ∧ Tc_toIntSLa L (li 0) (Ob.arr true 1 (List.replicate (Int.toNat (↑(List.length (List.map intC L)) : Int))
 [cI 0])) = Lc_toIntSLa L 0 ∧ Ic_toIntSLa L (List.length L - 0) (Lc_toIntSLa L 0) ∧ LoopSem Try.prog (loopAt Try.f49 0) (Ic_toIntSLa L) (Yc_toIntSLa L) ∧ (True → ObsEq [Ob.arr true
 1 (List.map intC L)] [Ob.arr true 1 (List.map intC L)] ∧ AV.sv (SV.one (AC.ref 0)) = AV.sv (SV.one (AC.ref 0))) ∧ True) := by kernel_rfl
theorem c_toIntS (L : List Int) (h : L.length ≤ 1048576)  : P_c_toIntS L := by
  refine CallOK.ofRun wide (run_c_toIntS L) Try.call49 Try.func49 rfl rfl rfl ?_
  with_reducible repeat' (first | apply And.intro | exact flatI | exact flatS | exact rowLens | (intro; skip) | apply obsN | apply obsC | apply obA | apply obM | apply obB | apply svA | apply tupA | apply lcA | apply lcS | apply svC | apply liC | apply lbC | apply lsC | apply vIc | apply vBc | apply vSc | apply vLc | apply mapC | apply Hc_toIntSLa | apply Ec_toIntSLa | apply Sc_toIntSLa | apply EW0c_toIntSLa)
  all_goals (try simp only [std] at *)
  all_goals (try (first | with_reducible rfl | omega | assumption | (refine (decide_eq_true ?_).symm; assumption) | (refine (decide_eq_false ?_).symm; assumption) | (refine rowGet ?_; (first | omega | (simp only [std]; omega) | grind)) | (refine getC ?_ rfl; (first | omega | (simp only [std]; omega) | grind)) | (refine fill_step ?_ ?_; (first | omega | (simp only [std]; omega) | grind); (first | rfl | exact (Row.eq _).trans rfl)) | (refine fill_init ?_; (first | rfl | exact (Row.eq _).trans rfl)) | (show (_ : St) = _; rfl) | grind [snocI, snocS, rowSnoc]))
abbrev P_c_toSyntaxS (L : List Syntax) : Prop := CallOK Try.prog 50 [] [ll (L.map syntaxC)] [.arr true 5 (L.map syntaxC)] (.sv (.one (.ref 0)))
abbrev P_c_toSyntax (x : Syntax) : Prop := CallOK Try.prog 18 [] [syntaxA x] (syntaxO x) (.sv (syntaxR x 0))
def Tc_toSyntaxSLa (L : List Syntax) (x0 : SV) (x1 : Ob) : St := St.mk (regsOf 23 [(0, AV.sv (ll (List.map syntaxC L))), (3, AV.sv (SV.one (AC.ref 0))), (4, AV.sv x0)]) [x1] 0 
def Lc_toSyntaxSLa (L : List Syntax) (k : Nat) : St := Tc_toSyntaxSLa L (li (↑k : Int)) (Ob.arr true 5 (List.map syntaxC (fillTo L k))) 
def Ic_toSyntaxSLa (L : List Syntax) : Nat → St → Prop := Head (Lc_toSyntaxSLa L) (fun k => k ≤ List.length L ∧ List.length L ≤ 9223372036854775807) fun k => List.length L - k 
def W0c_toSyntaxSLa (L : List Syntax) (x0 : Ob) : St := St.mk (regsOf 23 [(3, AV.sv (SV.one (AC.ref 0)))]) [x0] 0 
def Yc_toSyntaxSLa (L : List Syntax) : List (Prop × AEx × St) := [(True, AEx.exit 0, W0c_toSyntaxSLa L (Ob.arr true 5 (List.map syntaxC L)))]
theorem Hc_toSyntaxSLa {L : List Syntax} {k : Nat} {m : Nat} (h : (fun k => k ≤ List.length L ∧ List.length L ≤ 9223372036854775807) k) (hm : (fun k => List.length L - k) k = m) :
 Ic_toSyntaxSLa L m (Lc_toSyntaxSLa L k) := hm ▸ Head.mk h
theorem Ec_toSyntaxSLa {L : List Syntax} {k : Nat} {x0 : SV} {x1 : Ob} (h0 : x0 = (li (↑k : Int))) (h1 : x1 = (Ob.arr true 5 (List.map syntaxC (fillTo L k)))) : Tc_toSyntaxSLa L x0
 x1 = Lc_toSyntaxSLa L k := by
  rw [h0, h1]
  rfl
theorem EW0c_toSyntaxSLa {L : List Syntax} {x0 y0 : Ob} (h0 : x0 = y0) : W0c_toSyntaxSLa L x0 = W0c_toSyntaxSLa L y0 := by rw [h0]
theorem run_c_toSyntaxSLa (L : List Syntax) (k : Nat) : aexec Try.prog (loopAt Try.f50 0) (Lc_toSyntaxSLa L k) [Orc.br [Orc.cells (syntaxF (List.getD L k default)), Orc.call
 [Mode.rd] (syntaxO (List.getD L k default)) (AV.sv (syntaxR (List.getD L k default) 0)), Orc.cells (syntaxF (List.getD (fillTo L k) (Int.toNat (↑k : Int)) default)), Orc.ghost
 (Ghost.sel [0] [0, 3, 4]), Orc.goto (List.length L - (k + 1)) (Lc_toSyntaxSLa L (k + 1))] [Orc.ghost (Ghost.sel [0] [3]), Orc.out 0]] (loopK (Ic_toSyntaxSLa L) (Yc_toSyntaxSLa L)
 (List.length L - k)) = (List.length (List.map syntaxC L) ≤ 9223372036854775807 → (decide ((↑k : Int) < (↑(List.length (List.map syntaxC L)) : Int)) = true → (0 ≤ (↑k : Int) ∧
 (List.map syntaxC L)[Int.toNat (↑k : Int)]? = some (syntaxF (List.getD L k default))) ∧ P_c_toSyntax (List.getD L k default) ∧ (0 ≤ (↑k : Int) ∧ Int.toNat (↑k : Int) < List.length
 (List.map syntaxC (fillTo L k))) ∧ (List.map syntaxC (fillTo L k))[Int.toNat (↑k : Int)]? = some (syntaxF (List.getD (fillTo L k) (Int.toNat (↑k : Int)) default)) ∧ rng
 IntKind.i64 ((↑k : Int) + 1) ∧ List.length L - (k + 1) < List.length L - k ∧ Tc_toSyntaxSLa L (li ((↑k : Int) + 1)) (Ob.arr true 5 (List.set (List.map syntaxC (fillTo L k))
 (Int.toNat (↑k : Int)) (syntaxF (List.getD L k default)))) = Lc_toSyntaxSLa L (k + 1) ∧ Ic_toSyntaxSLa L (List.length L - (k + 1)) (Lc_toSyntaxSLa L (k + 1))) ∧ (decide ((↑k :
 Int) < (↑(List.length (List.map syntaxC L)) : Int)) = false → True ∧ W0c_toSyntaxSLa L (Ob.arr true 5 (List.map syntaxC (fillTo L k))) = W0c_toSyntaxSLa L (Ob.arr true 5 (List.map
 syntaxC L)))) := by kernel_rfl
theorem Sc_toSyntaxSLa (L : List Syntax) (h : List.length L + sumBy wY L ≤ 1048576) (ih : ∀ (x : Syntax), x ∈ L → wY x ≤ 1048576 → P_c_toSyntax x)  : LoopSem Try.prog (loopAt
 Try.f50 0) (Ic_toSyntaxSLa L) (Yc_toSyntaxSLa L) := by
  refine LoopSem.ofHead wide fun k h => ⟨_, _, run_c_toSyntaxSLa L k, ?_⟩
  with_reducible repeat' (first | apply And.intro | exact flatI | exact flatS | exact rowLens | exact ih | (intro; skip) | apply obsN | apply obsC | apply obA | apply obM | apply obB | apply svA | apply tupA | apply lcA | apply lcS | apply svC | apply liC | apply lbC | apply lsC | apply vIc | apply vBc | apply vSc | apply vLc | apply mapC | apply Hc_toSyntaxSLa | apply Ec_toSyntaxSLa | apply EW0c_toSyntaxSLa | apply ih)
  all_goals (try simp only [std] at *)
  all_goals (try (first | with_reducible apply ih | (simp only [← List.map_append]; first | with_reducible apply ih)))
  all_goals (try (first | with_reducible rfl | omega | assumption | (refine (decide_eq_true ?_).symm; assumption) | (refine (decide_eq_false ?_).symm; assumption) | (refine rowGet ?_; (first | omega | (simp only [std]; omega) | grind)) | (refine getC ?_ rfl; (first | omega | (simp only [std]; omega) | grind)) | (refine fill_step ?_ ?_; (first | omega | (simp only [std]; omega) | grind); (first | rfl | exact (Row.eq _).trans rfl)) | (refine fill_init ?_; (first | rfl | exact (Row.eq _).trans rfl)) | (show (_ : St) = _; rfl) | grind [fillTo_all, getD_mem', sumBy_mem, snocI, snocS, rowSnoc]))
theorem run_c_toSyntaxS (L : List Syntax) : aexec Try.prog (Option.getD (Func.body Try.f50) Code.skip) (entry [] [ll (List.map syntaxC L)] 23) [Orc.ghost (Ghost.sel [0] [0, 3, 4]),
 Orc.loop (List.length L - 0) (Lc_toSyntaxSLa L 0) (Ic_toSyntaxSLa L) [(True, AEx.exit 0, W0c_toSyntaxSLa L (Ob.arr true 5 (List.map syntaxC L)), [Orc.fin [0]])]] (finK Try.prog
 [ResultVar.tmp 2] [Ob.arr true 5 (List.map syntaxC L)] (AV.sv (SV.one (AC.ref 0)))) = (List.length (List.map syntaxC L) ≤ 9223372036854775807 → (0 ≤ (↑(List.length (List.map
 syntaxC L)) : Int) ∧ 80 * Int.toNat (↑(List.length (List.map syntaxC L)) : Int) ≤ 281474976710656) ∧ Tc_toSyntaxSLa L (li 0) (Ob.arr true 5 (List.replicate (Int.toNat
 (↑(List.length (List.map syntaxC L)) : Int)) [cI 0, cI 0, cS (ByteArray.mk #[]), Cell.list [], Cell.list []])) = Lc_toSyntaxSLa L 0 ∧ Ic_toSyntaxSLa L (List.length L - 0)
 (Lc_toSyntaxSLa L 0) ∧ LoopSem Try.prog (loopAt Try.f50 0) (Ic_toSyntaxSLa L) (Yc_toSyntaxSLa L) ∧ (True → ObsEq [Ob.arr true 5 (List.map syntaxC L)] [Ob.arr true 5 (List.map
 syntaxC L)] ∧ AV.sv (SV.one (AC.ref 0)) = AV.sv (SV.one (AC.ref 0))) ∧ True) := by kernel_rfl
theorem c_toSyntaxS (L : List Syntax) (h : L.length + sumBy wY L ≤ 1048576) (ih : ∀ x ∈ L, ∀ (h : wY x ≤ 1048576), P_c_toSyntax x)  : P_c_toSyntaxS L := by
  refine CallOK.ofRun wide (run_c_toSyntaxS L) Try.call50 Try.func50 rfl rfl rfl ?_
  with_reducible repeat' (first | apply And.intro | exact flatI | exact flatS | exact rowLens | exact ih | (intro; skip) | apply obsN | apply obsC | apply obA | apply obM | apply obB | apply svA | apply tupA | apply lcA | apply lcS | apply svC | apply liC | apply lbC | apply lsC | apply vIc | apply vBc | apply vSc | apply vLc | apply mapC | apply Hc_toSyntaxSLa | apply Ec_toSyntaxSLa | apply Sc_toSyntaxSLa | apply EW0c_toSyntaxSLa)
  all_goals (try simp only [std] at *)
  all_goals (try (first | with_reducible apply ih | (simp only [← List.map_append]; first | with_reducible apply ih)))
  all_goals (try (first | with_reducible rfl | omega | assumption | (refine (decide_eq_true ?_).symm; assumption) | (refine (decide_eq_false ?_).symm; assumption) | (refine rowGet ?_; (first | omega | (simp only [std]; omega) | grind)) | (refine getC ?_ rfl; (first | omega | (simp only [std]; omega) | grind)) | (refine fill_step ?_ ?_; (first | omega | (simp only [std]; omega) | grind); (first | rfl | exact (Row.eq _).trans rfl)) | (refine fill_init ?_; (first | rfl | exact (Row.eq _).trans rfl)) | (show (_ : St) = _; rfl) | grind [snocI, snocS, rowSnoc]))
theorem run_c_toSyntax_s (x : Syntax) : aexec Try.prog (Option.getD (Func.body Try.f18) Code.skip) (entry [] [syntaxA x] 22) [Orc.call [Mode.rd] [Ob.arr true 1 (List.map intC
 (Syntax.scopes x))] (AV.sv (SV.one (AC.ref 0))), Orc.call [Mode.rd] [Ob.arr true 5 (List.map syntaxC (Syntax.items x))] (AV.sv (SV.one (AC.ref 0))), Orc.fin [3, 4]] (finK Try.prog
 [ResultVar.cell 2 48] (syntaxO x) (AV.sv (syntaxR x 0))) = (P_c_toIntS (Syntax.scopes x) ∧ P_c_toSyntaxS (Syntax.items x) ∧ ObsEq [Ob.arr true 1 (List.map intC (Syntax.scopes x)),
 Ob.arr true 5 (List.map syntaxC (Syntax.items x))] [Ob.arr true 1 (List.map intC (Syntax.scopes x)), Ob.arr true 5 (List.map syntaxC (Syntax.items x))] ∧ AV.sv (SV.agg [vI
 (Syntax.kind x), vI (Syntax.number x), vS (Syntax.text x), AC.ref 0, AC.ref 1]) = AV.sv (SV.agg [vI (Syntax.kind x), vI (Syntax.number x), vS (Syntax.text x), AC.ref 0, AC.ref
 1])) := by kernel_rfl
theorem c_toSyntax_s (x : Syntax) (h : wY x ≤ 1048576) (ih : ∀ z ∈ x.items, ∀ (h : wY z ≤ 1048576), P_c_toSyntax z)  : P_c_toSyntax x := by
  refine CallOK.ofRun wide (run_c_toSyntax_s x) Try.call18 Try.func18 rfl rfl rfl ?_
  with_reducible repeat' (first | apply And.intro | exact flatI | exact flatS | exact rowLens | exact ih | (intro; skip) | apply obsN | apply obsC | apply obA | apply obM | apply obB | apply svA | apply tupA | apply lcA | apply lcS | apply svC | apply liC | apply lbC | apply lsC | apply vIc | apply vBc | apply vSc | apply vLc | apply mapC | apply c_toIntS | apply c_toSyntaxS | apply ih)
  all_goals (try simp only [std] at *)
  all_goals (try (first | with_reducible apply c_toIntS | with_reducible apply c_toSyntaxS | with_reducible apply ih | (simp only [← List.map_append]; first | with_reducible apply c_toIntS | with_reducible apply c_toSyntaxS | with_reducible apply ih)))
  all_goals (try (first | with_reducible rfl | omega | assumption | (refine (decide_eq_true ?_).symm; assumption) | (refine (decide_eq_false ?_).symm; assumption) | (refine rowGet ?_; (first | omega | (simp only [std]; omega) | grind)) | (refine getC ?_ rfl; (first | omega | (simp only [std]; omega) | grind)) | (refine fill_step ?_ ?_; (first | omega | (simp only [std]; omega) | grind); (first | rfl | exact (Row.eq _).trans rfl)) | (refine fill_init ?_; (first | rfl | exact (Row.eq _).trans rfl)) | (show (_ : St) = _; rfl) | grind [wY_eq, wS, snocI, snocS, rowSnoc]))
theorem c_toSyntax (x : Syntax) : ∀ (h : wY x ≤ 1048576), P_c_toSyntax x := Syntax.ind (P := fun x => ∀ (h : wY x ≤ 1048576), P_c_toSyntax x) (fun x ih h => c_toSyntax_s x h ih) x
abbrev P_c_toCaptureS (L : List Capture) : Prop := CallOK Try.prog 19 [] [ll (L.map captureC)] [.arr true 12 (L.map captureC)] (.sv (.one (.ref 0)))
abbrev P_c_toCapture (x : Capture) : Prop := CallOK Try.prog 51 [] [captureA x] (captureO x) (.sv (captureR x 0))
def Tc_toCaptureSLa (L : List Capture) (x0 : SV) (x1 : Ob) : St := St.mk (regsOf 23 [(0, AV.sv (ll (List.map captureC L))), (3, AV.sv (SV.one (AC.ref 0))), (4, AV.sv x0)]) [x1] 0 
def Lc_toCaptureSLa (L : List Capture) (k : Nat) : St := Tc_toCaptureSLa L (li (↑k : Int)) (Ob.arr true 12 (List.map captureC (fillTo L k))) 
def Ic_toCaptureSLa (L : List Capture) : Nat → St → Prop := Head (Lc_toCaptureSLa L) (fun k => k ≤ List.length L ∧ List.length L ≤ 9223372036854775807) fun k => List.length L - k 
def W0c_toCaptureSLa (L : List Capture) (x0 : Ob) : St := St.mk (regsOf 23 [(3, AV.sv (SV.one (AC.ref 0)))]) [x0] 0 
def Yc_toCaptureSLa (L : List Capture) : List (Prop × AEx × St) := [(True, AEx.exit 0, W0c_toCaptureSLa L (Ob.arr true 12 (List.map captureC L)))]
theorem Hc_toCaptureSLa {L : List Capture} {k : Nat} {m : Nat} (h : (fun k => k ≤ List.length L ∧ List.length L ≤ 9223372036854775807) k) (hm : (fun k => List.length L - k) k = m)
 : Ic_toCaptureSLa L m (Lc_toCaptureSLa L k) := hm ▸ Head.mk h
theorem Ec_toCaptureSLa {L : List Capture} {k : Nat} {x0 : SV} {x1 : Ob} (h0 : x0 = (li (↑k : Int))) (h1 : x1 = (Ob.arr true 12 (List.map captureC (fillTo L k)))) : Tc_toCaptureSLa
 L x0 x1 = Lc_toCaptureSLa L k := by
  rw [h0, h1]
  rfl
theorem EW0c_toCaptureSLa {L : List Capture} {x0 y0 : Ob} (h0 : x0 = y0) : W0c_toCaptureSLa L x0 = W0c_toCaptureSLa L y0 := by rw [h0]
theorem run_c_toCaptureSLa (L : List Capture) (k : Nat) : aexec Try.prog (loopAt Try.f19 0) (Lc_toCaptureSLa L k) [Orc.br [Orc.cells (captureF (List.getD L k default)), Orc.call
 [Mode.rd] (captureO (List.getD L k default)) (AV.sv (captureR (List.getD L k default) 0)), Orc.cells (captureF (List.getD (fillTo L k) (Int.toNat (↑k : Int)) default)), Orc.ghost
 (Ghost.sel [0] [0, 3, 4]), Orc.goto (List.length L - (k + 1)) (Lc_toCaptureSLa L (k + 1))] [Orc.ghost (Ghost.sel [0] [3]), Orc.out 0]] (loopK (Ic_toCaptureSLa L) (Yc_toCaptureSLa
 L) (List.length L - k)) = (List.length (List.map captureC L) ≤ 9223372036854775807 → (decide ((↑k : Int) < (↑(List.length (List.map captureC L)) : Int)) = true → (0 ≤ (↑k : Int) ∧
 (List.map captureC L)[Int.toNat (↑k : Int)]? = some (captureF (List.getD L k default))) ∧ P_c_toCapture (List.getD L k default) ∧ (0 ≤ (↑k : Int) ∧ Int.toNat (↑k : Int) <
 List.length (List.map captureC (fillTo L k))) ∧ (List.map captureC (fillTo L k))[Int.toNat (↑k : Int)]? = some (captureF (List.getD (fillTo L k) (Int.toNat (↑k : Int)) default)) ∧
 rng IntKind.i64 ((↑k : Int) + 1) ∧ List.length L - (k + 1) < List.length L - k ∧ Tc_toCaptureSLa L (li ((↑k : Int) + 1)) (Ob.arr true 12 (List.set (List.map captureC (fillTo L k))
 (Int.toNat (↑k : Int)) (captureF (List.getD L k default)))) = Lc_toCaptureSLa L (k + 1) ∧ Ic_toCaptureSLa L (List.length L - (k + 1)) (Lc_toCaptureSLa L (k + 1))) ∧ (decide ((↑k :
 Int) < (↑(List.length (List.map captureC L)) : Int)) = false → True ∧ W0c_toCaptureSLa L (Ob.arr true 12 (List.map captureC (fillTo L k))) = W0c_toCaptureSLa L (Ob.arr true 12
 (List.map captureC L)))) := by kernel_rfl
theorem Sc_toCaptureSLa (L : List Capture) (h : List.length L + sumBy wP L ≤ 1048576) (ih : ∀ (x : Capture), x ∈ L → wP x ≤ 1048576 → P_c_toCapture x)  : LoopSem Try.prog (loopAt
 Try.f19 0) (Ic_toCaptureSLa L) (Yc_toCaptureSLa L) := by
  refine LoopSem.ofHead wide fun k h => ⟨_, _, run_c_toCaptureSLa L k, ?_⟩
  with_reducible repeat' (first | apply And.intro | exact flatI | exact flatS | exact rowLens | exact ih | (intro; skip) | apply obsN | apply obsC | apply obA | apply obM | apply obB | apply svA | apply tupA | apply lcA | apply lcS | apply svC | apply liC | apply lbC | apply lsC | apply vIc | apply vBc | apply vSc | apply vLc | apply mapC | apply Hc_toCaptureSLa | apply Ec_toCaptureSLa | apply EW0c_toCaptureSLa | apply ih)
  all_goals (try simp only [std] at *)
  all_goals (try (first | with_reducible apply ih | (simp only [← List.map_append]; first | with_reducible apply ih)))
  all_goals (try (first | with_reducible rfl | omega | assumption | (refine (decide_eq_true ?_).symm; assumption) | (refine (decide_eq_false ?_).symm; assumption) | (refine rowGet ?_; (first | omega | (simp only [std]; omega) | grind)) | (refine getC ?_ rfl; (first | omega | (simp only [std]; omega) | grind)) | (refine fill_step ?_ ?_; (first | omega | (simp only [std]; omega) | grind); (first | rfl | exact (Row.eq _).trans rfl)) | (refine fill_init ?_; (first | rfl | exact (Row.eq _).trans rfl)) | (show (_ : St) = _; rfl) | grind [fillTo_all, getD_mem', sumBy_mem, snocI, snocS, rowSnoc]))
theorem run_c_toCaptureS (L : List Capture) : aexec Try.prog (Option.getD (Func.body Try.f19) Code.skip) (entry [] [ll (List.map captureC L)] 23) [Orc.ghost (Ghost.sel [0] [0, 3,
 4]), Orc.loop (List.length L - 0) (Lc_toCaptureSLa L 0) (Ic_toCaptureSLa L) [(True, AEx.exit 0, W0c_toCaptureSLa L (Ob.arr true 12 (List.map captureC L)), [Orc.fin [0]])]] (finK
 Try.prog [ResultVar.tmp 2] [Ob.arr true 12 (List.map captureC L)] (AV.sv (SV.one (AC.ref 0)))) = (List.length (List.map captureC L) ≤ 9223372036854775807 → (0 ≤ (↑(List.length
 (List.map captureC L)) : Int) ∧ 192 * Int.toNat (↑(List.length (List.map captureC L)) : Int) ≤ 281474976710656) ∧ Tc_toCaptureSLa L (li 0) (Ob.arr true 12 (List.replicate
 (Int.toNat (↑(List.length (List.map captureC L)) : Int)) [cI 0, cI 0, cS (ByteArray.mk #[]), Cell.list [], Cell.list [], cI 0, cI 0, cI 0, cS (ByteArray.mk #[]), Cell.list [],
 Cell.list [], Cell.list []])) = Lc_toCaptureSLa L 0 ∧ Ic_toCaptureSLa L (List.length L - 0) (Lc_toCaptureSLa L 0) ∧ LoopSem Try.prog (loopAt Try.f19 0) (Ic_toCaptureSLa L)
 (Yc_toCaptureSLa L) ∧ (True → ObsEq [Ob.arr true 12 (List.map captureC L)] [Ob.arr true 12 (List.map captureC L)] ∧ AV.sv (SV.one (AC.ref 0)) = AV.sv (SV.one (AC.ref 0))) ∧ True)
 := by kernel_rfl
theorem c_toCaptureS (L : List Capture) (h : L.length + sumBy wP L ≤ 1048576) (ih : ∀ x ∈ L, ∀ (h : wP x ≤ 1048576), P_c_toCapture x)  : P_c_toCaptureS L := by
  refine CallOK.ofRun wide (run_c_toCaptureS L) Try.call19 Try.func19 rfl rfl rfl ?_
  with_reducible repeat' (first | apply And.intro | exact flatI | exact flatS | exact rowLens | exact ih | (intro; skip) | apply obsN | apply obsC | apply obA | apply obM | apply obB | apply svA | apply tupA | apply lcA | apply lcS | apply svC | apply liC | apply lbC | apply lsC | apply vIc | apply vBc | apply vSc | apply vLc | apply mapC | apply Hc_toCaptureSLa | apply Ec_toCaptureSLa | apply Sc_toCaptureSLa | apply EW0c_toCaptureSLa)
  all_goals (try simp only [std] at *)
  all_goals (try (first | with_reducible apply ih | (simp only [← List.map_append]; first | with_reducible apply ih)))
  all_goals (try (first | with_reducible rfl | omega | assumption | (refine (decide_eq_true ?_).symm; assumption) | (refine (decide_eq_false ?_).symm; assumption) | (refine rowGet ?_; (first | omega | (simp only [std]; omega) | grind)) | (refine getC ?_ rfl; (first | omega | (simp only [std]; omega) | grind)) | (refine fill_step ?_ ?_; (first | omega | (simp only [std]; omega) | grind); (first | rfl | exact (Row.eq _).trans rfl)) | (refine fill_init ?_; (first | rfl | exact (Row.eq _).trans rfl)) | (show (_ : St) = _; rfl) | grind [snocI, snocS, rowSnoc]))
theorem run_c_toCapture_s (x : Capture) : aexec Try.prog (Option.getD (Func.body Try.f51) Code.skip) (entry [] [captureA x] 20) [Orc.call [Mode.rd] (syntaxO (Capture.name x))
 (AV.sv (syntaxR (Capture.name x) 0)), Orc.call [Mode.rd] (syntaxO (Capture.form x)) (AV.sv (syntaxR (Capture.form x) 0)), Orc.call [Mode.rd] [Ob.arr true 12 (List.map captureC
 (Capture.each x))] (AV.sv (SV.one (AC.ref 0))), Orc.fin [3, 4, 5, 6, 7]] (finK Try.prog [ResultVar.cell 2 90] (captureO x) (AV.sv (captureR x 0))) = (P_c_toSyntax (Capture.name x)
 ∧ P_c_toSyntax (Capture.form x) ∧ P_c_toCaptureS (Capture.each x) ∧ ObsEq [Ob.arr true 1 (List.map intC (Syntax.scopes (Capture.name x))), Ob.arr true 5 (List.map syntaxC
 (Syntax.items (Capture.name x))), Ob.arr true 1 (List.map intC (Syntax.scopes (Capture.form x))), Ob.arr true 5 (List.map syntaxC (Syntax.items (Capture.form x))), Ob.arr true 12
 (List.map captureC (Capture.each x))] [Ob.arr true 1 (List.map intC (Syntax.scopes (Capture.name x))), Ob.arr true 5 (List.map syntaxC (Syntax.items (Capture.name x))), Ob.arr
 true 1 (List.map intC (Syntax.scopes (Capture.form x))), Ob.arr true 5 (List.map syntaxC (Syntax.items (Capture.form x))), Ob.arr true 12 (List.map captureC (Capture.each x))] ∧
 AV.sv (SV.agg [vI (Syntax.kind (Capture.name x)), vI (Syntax.number (Capture.name x)), vS (Syntax.text (Capture.name x)), AC.ref 0, AC.ref 1, vI (Capture.depth x), vI (Syntax.kind
 (Capture.form x)), vI (Syntax.number (Capture.form x)), vS (Syntax.text (Capture.form x)), AC.ref 2, AC.ref 3, AC.ref 4]) = AV.sv (SV.agg [vI (Syntax.kind (Capture.name x)), vI
 (Syntax.number (Capture.name x)), vS (Syntax.text (Capture.name x)), AC.ref 0, AC.ref 1, vI (Capture.depth x), vI (Syntax.kind (Capture.form x)), vI (Syntax.number (Capture.form
 x)), vS (Syntax.text (Capture.form x)), AC.ref 2, AC.ref 3, AC.ref 4])) := by kernel_rfl
theorem c_toCapture_s (x : Capture) (h : wP x ≤ 1048576) (ih : ∀ z ∈ x.each, ∀ (h : wP z ≤ 1048576), P_c_toCapture z)  : P_c_toCapture x := by
  refine CallOK.ofRun wide (run_c_toCapture_s x) Try.call51 Try.func51 rfl rfl rfl ?_
  with_reducible repeat' (first | apply And.intro | exact flatI | exact flatS | exact rowLens | exact ih | (intro; skip) | apply obsN | apply obsC | apply obA | apply obM | apply obB | apply svA | apply tupA | apply lcA | apply lcS | apply svC | apply liC | apply lbC | apply lsC | apply vIc | apply vBc | apply vSc | apply vLc | apply mapC | apply c_toSyntax | apply c_toCaptureS | apply ih)
  all_goals (try simp only [std] at *)
  all_goals (try (first | with_reducible apply c_toSyntax | with_reducible apply c_toCaptureS | with_reducible apply ih | (simp only [← List.map_append]; first | with_reducible apply c_toSyntax | with_reducible apply c_toCaptureS | with_reducible apply ih)))
  all_goals (try (first | with_reducible rfl | omega | assumption | (refine (decide_eq_true ?_).symm; assumption) | (refine (decide_eq_false ?_).symm; assumption) | (refine rowGet ?_; (first | omega | (simp only [std]; omega) | grind)) | (refine getC ?_ rfl; (first | omega | (simp only [std]; omega) | grind)) | (refine fill_step ?_ ?_; (first | omega | (simp only [std]; omega) | grind); (first | rfl | exact (Row.eq _).trans rfl)) | (refine fill_init ?_; (first | rfl | exact (Row.eq _).trans rfl)) | (show (_ : St) = _; rfl) | grind [wP_eq, wS, snocI, snocS, rowSnoc]))
theorem c_toCapture (x : Capture) : ∀ (h : wP x ≤ 1048576), P_c_toCapture x := Capture.ind (P := fun x => ∀ (h : wP x ≤ 1048576), P_c_toCapture x) (fun x ih h => c_toCapture_s x h ih) x
end Go.Proofs.Ytegbadciefljcaa
end
section
namespace Go.Proofs.Ytegbadciefljcaa
open Go Go.Proofs.Ytegbadciefljcaa.Ab
set_option linter.unusedVariables false
set_option linter.unusedSimpArgs false
set_option maxHeartbeats 4000000
abbrev P_c_eqIntS (A : List Int) (B : List Int) : Prop := CallOK Try.prog 55 [] [ll (A.map intC), ll (B.map intC)] [] (.sv (lb (decide (A = B))))
def Tc_eqIntSLa (A : List Int) (B : List Int) (x0 : SV) : St := St.mk (regsOf 26 [(0, AV.sv (ll (List.map intC A))), (1, AV.sv (ll (List.map intC B))), (5, AV.sv x0)]) [] 0 
def Lc_eqIntSLa (A : List Int) (B : List Int) (k : Nat) : St := Tc_eqIntSLa A B (li (↑k : Int)) 
def Ic_eqIntSLa (A : List Int) (B : List Int) : Nat → St → Prop := Head (Lc_eqIntSLa A B) (fun k => k ≤ List.length A ∧ List.length A ≤ 9223372036854775807 ∧ List.length A =
 List.length B ∧ List.take k A = List.take k B) fun k => List.length A - k 
def W0c_eqIntSLa (A : List Int) (B : List Int) : St := St.mk (regsOf 26 []) [] 0 
def W1c_eqIntSLa (A : List Int) (B : List Int) (x0 : SV) : St := St.mk (regsOf 26 [(4, AV.sv x0)]) [] 0 
def Yc_eqIntSLa (A : List Int) (B : List Int) : List (Prop × AEx × St) := [(A = B, AEx.exit 0, W0c_eqIntSLa A B), (A ≠ B, AEx.ret, W1c_eqIntSLa A B (lb false))]
theorem Hc_eqIntSLa {A : List Int} {B : List Int} {k : Nat} {m : Nat} (h : (fun k => k ≤ List.length A ∧ List.length A ≤ 9223372036854775807 ∧ List.length A = List.length B ∧
 List.take k A = List.take k B) k) (hm : (fun k => List.length A - k) k = m) : Ic_eqIntSLa A B m (Lc_eqIntSLa A B k) := hm ▸ Head.mk h
theorem Ec_eqIntSLa {A : List Int} {B : List Int} {k : Nat} {x0 : SV} (h0 : x0 = (li (↑k : Int))) : Tc_eqIntSLa A B x0 = Lc_eqIntSLa A B k := by
  rw [h0]
  rfl
theorem EW1c_eqIntSLa {A : List Int} {B : List Int} {x0 y0 : SV} (h0 : x0 = y0) : W1c_eqIntSLa A B x0 = W1c_eqIntSLa A B y0 := by rw [h0]
theorem run_c_eqIntSLa (A : List Int) (B : List Int) (k : Nat) : aexec Try.prog (loopAt Try.f55 0) (Lc_eqIntSLa A B k) [Orc.br [Orc.draw [], Orc.cells (intC (List.getD A k
 default)), Orc.cells (intC (List.getD B k default)), Orc.br [Orc.ghost (Ghost.sel [] [4]), Orc.out 1] [Orc.ghost (Ghost.sel [] [0, 1, 5]), Orc.goto (List.length A - (k + 1))
 (Lc_eqIntSLa A B (k + 1))]] [Orc.ghost (Ghost.sel [] []), Orc.out 0]] (loopK (Ic_eqIntSLa A B) (Yc_eqIntSLa A B) (List.length A - k)) = (List.length (List.map intC A) ≤
 9223372036854775807 → (decide ((↑k : Int) < (↑(List.length (List.map intC A)) : Int)) = true → (0 ≤ (↑k : Int) ∧ (List.map intC A)[Int.toNat (↑k : Int)]? = some [cI (List.getD A k
 0)]) ∧ (0 ≤ (↑k : Int) ∧ (List.map intC B)[Int.toNat (↑k : Int)]? = some [cI (List.getD B k 0)]) ∧ (decide (List.getD A k (0 : Int) ≠ List.getD B k 0) = true → A ≠ B ∧
 W1c_eqIntSLa A B (lb false) = W1c_eqIntSLa A B (lb false)) ∧ (decide (List.getD A k (0 : Int) ≠ List.getD B k 0) = false → rng IntKind.i64 ((↑k : Int) + 1) ∧ List.length A - (k +
 1) < List.length A - k ∧ Tc_eqIntSLa A B (li ((↑k : Int) + 1)) = Lc_eqIntSLa A B (k + 1) ∧ Ic_eqIntSLa A B (List.length A - (k + 1)) (Lc_eqIntSLa A B (k + 1)))) ∧ (decide ((↑k :
 Int) < (↑(List.length (List.map intC A)) : Int)) = false → A = B ∧ W0c_eqIntSLa A B = W0c_eqIntSLa A B)) := by kernel_rfl
theorem Sc_eqIntSLa (A : List Int) (B : List Int)  : LoopSem Try.prog (loopAt Try.f55 0) (Ic_eqIntSLa A B) (Yc_eqIntSLa A B) := by
  refine LoopSem.ofHead wide fun k h => ⟨_, _, run_c_eqIntSLa A B k, ?_⟩
  with_reducible repeat' (first | apply And.intro | exact flatI | exact flatS | exact rowLens | (intro; skip) | apply obsN | apply obsC | apply obA | apply obM | apply obB | apply svA | apply tupA | apply lcA | apply lcS | apply svC | apply liC | apply lbC | apply lsC | apply vIc | apply vBc | apply vSc | apply vLc | apply mapC | apply Hc_eqIntSLa | apply Ec_eqIntSLa | apply EW1c_eqIntSLa)
  all_goals (try simp only [std] at *)
  all_goals (try (first | with_reducible rfl | omega | assumption | (refine (decide_eq_true ?_).symm; assumption) | (refine (decide_eq_false ?_).symm; assumption) | (refine rowGet ?_; (first | omega | (simp only [std]; omega) | grind)) | (refine getC ?_ rfl; (first | omega | (simp only [std]; omega) | grind)) | (show (_ : St) = _; rfl) | grind [take_eq, snocI, snocS, rowSnoc]))
theorem run_c_eqIntS (A : List Int) (B : List Int) : aexec Try.prog (Option.getD (Func.body Try.f55) Code.skip) (entry [] [ll (List.map intC A), ll (List.map intC B)] 26) [Orc.br
 [Orc.fin []] [Orc.ghost (Ghost.sel [] [0, 1, 5]), Orc.loop (List.length A - 0) (Lc_eqIntSLa A B 0) (Ic_eqIntSLa A B) [(A = B, AEx.exit 0, W0c_eqIntSLa A B, [Orc.fin []]), (A ≠ B,
 AEx.ret, W1c_eqIntSLa A B (lb false), [Orc.fin []])]]] (finK Try.prog [ResultVar.tmp 4] [] (AV.sv (lb (decide (A = B))))) = (List.length (List.map intC A) ≤ 9223372036854775807 →
 List.length (List.map intC B) ≤ 9223372036854775807 → (decide ((↑(List.length (List.map intC A)) : Int) ≠ (↑(List.length (List.map intC B)) : Int)) = true → ObsEq [] [] ∧ AV.sv
 (lb false) = AV.sv (lb (decide (A = B)))) ∧ (decide ((↑(List.length (List.map intC A)) : Int) ≠ (↑(List.length (List.map intC B)) : Int)) = false → Tc_eqIntSLa A B (li 0) =
 Lc_eqIntSLa A B 0 ∧ Ic_eqIntSLa A B (List.length A - 0) (Lc_eqIntSLa A B 0) ∧ LoopSem Try.prog (loopAt Try.f55 0) (Ic_eqIntSLa A B) (Yc_eqIntSLa A B) ∧ (A = B → ObsEq [] [] ∧
 AV.sv (lb true) = AV.sv (lb (decide (A = B)))) ∧ ((A = B → False) → ObsEq [] [] ∧ AV.sv (lb false) = AV.sv (lb (decide (A = B)))) ∧ True)) := by kernel_rfl
theorem c_eqIntS (A B : List Int)  : P_c_eqIntS A B := by
  refine CallOK.ofRun wide (run_c_eqIntS A B) Try.call55 Try.func55 rfl rfl rfl ?_
  with_reducible repeat' (first | apply And.intro | exact flatI | exact flatS | exact rowLens | (intro; skip) | apply obsN | apply obsC | apply obA | apply obM | apply obB | apply svA | apply tupA | apply lcA | apply lcS | apply svC | apply liC | apply lbC | apply lsC | apply vIc | apply vBc | apply vSc | apply vLc | apply mapC | apply Hc_eqIntSLa | apply Ec_eqIntSLa | apply Sc_eqIntSLa | apply EW1c_eqIntSLa)
  all_goals (try simp only [std] at *)
  all_goals (try (first | with_reducible rfl | omega | assumption | (refine (decide_eq_true ?_).symm; assumption) | (refine (decide_eq_false ?_).symm; assumption) | (refine rowGet ?_; (first | omega | (simp only [std]; omega) | grind)) | (refine getC ?_ rfl; (first | omega | (simp only [std]; omega) | grind)) | (show (_ : St) = _; rfl) | grind [snocI, snocS, rowSnoc]))
abbrev P_c_eqSyntaxS (A : List Syntax) (B : List Syntax) : Prop := CallOK Try.prog 56 [] [ll (A.map syntaxC), ll (B.map syntaxC)] [] (.sv (lb (decide (A = B))))
abbrev P_c_eqSyntax (x : Syntax) (y : Syntax) : Prop := CallOK Try.prog 21 [] [syntaxA x, syntaxA y] [] (.sv (lb (decide (x = y))))
def Tc_eqSyntaxSLa (A : List Syntax) (B : List Syntax) (x0 : SV) : St := St.mk (regsOf 27 [(0, AV.sv (ll (List.map syntaxC A))), (1, AV.sv (ll (List.map syntaxC B))), (5, AV.sv
 x0)]) [] 0 
def Lc_eqSyntaxSLa (A : List Syntax) (B : List Syntax) (k : Nat) : St := Tc_eqSyntaxSLa A B (li (↑k : Int)) 
def Ic_eqSyntaxSLa (A : List Syntax) (B : List Syntax) : Nat → St → Prop := Head (Lc_eqSyntaxSLa A B) (fun k => k ≤ List.length A ∧ List.length A ≤ 9223372036854775807 ∧
 List.length A = List.length B ∧ List.take k A = List.take k B) fun k => List.length A - k 
def W0c_eqSyntaxSLa (A : List Syntax) (B : List Syntax) : St := St.mk (regsOf 27 []) [] 0 
def W1c_eqSyntaxSLa (A : List Syntax) (B : List Syntax) (x0 : SV) : St := St.mk (regsOf 27 [(4, AV.sv x0)]) [] 0 
def Yc_eqSyntaxSLa (A : List Syntax) (B : List Syntax) : List (Prop × AEx × St) := [(A = B, AEx.exit 0, W0c_eqSyntaxSLa A B), (A ≠ B, AEx.ret, W1c_eqSyntaxSLa A B (lb false))]
theorem Hc_eqSyntaxSLa {A : List Syntax} {B : List Syntax} {k : Nat} {m : Nat} (h : (fun k => k ≤ List.length A ∧ List.length A ≤ 9223372036854775807 ∧ List.length A = List.length
 B ∧ List.take k A = List.take k B) k) (hm : (fun k => List.length A - k) k = m) : Ic_eqSyntaxSLa A B m (Lc_eqSyntaxSLa A B k) := hm ▸ Head.mk h
theorem Ec_eqSyntaxSLa {A : List Syntax} {B : List Syntax} {k : Nat} {x0 : SV} (h0 : x0 = (li (↑k : Int))) : Tc_eqSyntaxSLa A B x0 = Lc_eqSyntaxSLa A B k := by
  rw [h0]
  rfl
theorem EW1c_eqSyntaxSLa {A : List Syntax} {B : List Syntax} {x0 y0 : SV} (h0 : x0 = y0) : W1c_eqSyntaxSLa A B x0 = W1c_eqSyntaxSLa A B y0 := by rw [h0]
theorem run_c_eqSyntaxSLa (A : List Syntax) (B : List Syntax) (k : Nat) : aexec Try.prog (loopAt Try.f56 0) (Lc_eqSyntaxSLa A B k) [Orc.br [Orc.draw [], Orc.cells (syntaxF
 (List.getD A k default)), Orc.cells (syntaxF (List.getD B k default)), Orc.call [Mode.rd, Mode.rd] [] (AV.sv (lb (decide (List.getD A k default = List.getD B k default)))), Orc.br
 [Orc.ghost (Ghost.sel [] [4]), Orc.out 1] [Orc.ghost (Ghost.sel [] [0, 1, 5]), Orc.goto (List.length A - (k + 1)) (Lc_eqSyntaxSLa A B (k + 1))]] [Orc.ghost (Ghost.sel [] []),
 Orc.out 0]] (loopK (Ic_eqSyntaxSLa A B) (Yc_eqSyntaxSLa A B) (List.length A - k)) = (List.length (List.map syntaxC A) ≤ 9223372036854775807 → (decide ((↑k : Int) < (↑(List.length
 (List.map syntaxC A)) : Int)) = true → (0 ≤ (↑k : Int) ∧ (List.map syntaxC A)[Int.toNat (↑k : Int)]? = some (syntaxF (List.getD A k default))) ∧ (0 ≤ (↑k : Int) ∧ (List.map
 syntaxC B)[Int.toNat (↑k : Int)]? = some (syntaxF (List.getD B k default))) ∧ P_c_eqSyntax (List.getD A k default) (List.getD B k default) ∧ ((!decide (List.getD A k default =
 List.getD B k default)) = true → A ≠ B ∧ W1c_eqSyntaxSLa A B (lb false) = W1c_eqSyntaxSLa A B (lb false)) ∧ ((!decide (List.getD A k default = List.getD B k default)) = false →
 rng IntKind.i64 ((↑k : Int) + 1) ∧ List.length A - (k + 1) < List.length A - k ∧ Tc_eqSyntaxSLa A B (li ((↑k : Int) + 1)) = Lc_eqSyntaxSLa A B (k + 1) ∧ Ic_eqSyntaxSLa A B
 (List.length A - (k + 1)) (Lc_eqSyntaxSLa A B (k + 1)))) ∧ (decide ((↑k : Int) < (↑(List.length (List.map syntaxC A)) : Int)) = false → A = B ∧ W0c_eqSyntaxSLa A B =
 W0c_eqSyntaxSLa A B)) := by kernel_rfl
theorem Sc_eqSyntaxSLa (A : List Syntax) (B : List Syntax) (ih : ∀ (x : Syntax), x ∈ A → ∀ (y : Syntax), P_c_eqSyntax x y)  : LoopSem Try.prog (loopAt Try.f56 0) (Ic_eqSyntaxSLa A
 B) (Yc_eqSyntaxSLa A B) := by
  refine LoopSem.ofHead wide fun k h => ⟨_, _, run_c_eqSyntaxSLa A B k, ?_⟩
  with_reducible repeat' (first | apply And.intro | exact flatI | exact flatS | exact rowLens | exact ih | (intro; skip) | apply obsN | apply obsC | apply obA | apply obM | apply obB | apply svA | apply tupA | apply lcA | apply lcS | apply svC | apply liC | apply lbC | apply lsC | apply vIc | apply vBc | apply vSc | apply vLc | apply mapC | apply Hc_eqSyntaxSLa | apply Ec_eqSyntaxSLa | apply EW1c_eqSyntaxSLa | apply ih)
  all_goals (try simp only [std] at *)
  all_goals (try (first | with_reducible apply ih | (simp only [← List.map_append]; first | with_reducible apply ih)))
  all_goals (try (first | with_reducible rfl | omega | assumption | (refine (decide_eq_true ?_).symm; assumption) | (refine (decide_eq_false ?_).symm; assumption) | (refine rowGet ?_; (first | omega | (simp only [std]; omega) | grind)) | (refine getC ?_ rfl; (first | omega | (simp only [std]; omega) | grind)) | (show (_ : St) = _; rfl) | grind [take_eq, getD_mem', snocI, snocS, rowSnoc]))
theorem run_c_eqSyntaxS (A : List Syntax) (B : List Syntax) : aexec Try.prog (Option.getD (Func.body Try.f56) Code.skip) (entry [] [ll (List.map syntaxC A), ll (List.map syntaxC
 B)] 27) [Orc.br [Orc.fin []] [Orc.ghost (Ghost.sel [] [0, 1, 5]), Orc.loop (List.length A - 0) (Lc_eqSyntaxSLa A B 0) (Ic_eqSyntaxSLa A B) [(A = B, AEx.exit 0, W0c_eqSyntaxSLa A
 B, [Orc.fin []]), (A ≠ B, AEx.ret, W1c_eqSyntaxSLa A B (lb false), [Orc.fin []])]]] (finK Try.prog [ResultVar.tmp 4] [] (AV.sv (lb (decide (A = B))))) = (List.length (List.map
 syntaxC A) ≤ 9223372036854775807 → List.length (List.map syntaxC B) ≤ 9223372036854775807 → (decide ((↑(List.length (List.map syntaxC A)) : Int) ≠ (↑(List.length (List.map syntaxC
 B)) : Int)) = true → ObsEq [] [] ∧ AV.sv (lb false) = AV.sv (lb (decide (A = B)))) ∧ (decide ((↑(List.length (List.map syntaxC A)) : Int) ≠ (↑(List.length (List.map syntaxC B)) :
 Int)) = false → Tc_eqSyntaxSLa A B (li 0) = Lc_eqSyntaxSLa A B 0 ∧ Ic_eqSyntaxSLa A B (List.length A - 0) (Lc_eqSyntaxSLa A B 0) ∧ LoopSem Try.prog (loopAt Try.f56 0)
 (Ic_eqSyntaxSLa A B) (Yc_eqSyntaxSLa A B) ∧ (A = B → ObsEq [] [] ∧ AV.sv (lb true) = AV.sv (lb (decide (A = B)))) ∧ ((A = B → False) → ObsEq [] [] ∧ AV.sv (lb false) = AV.sv (lb
 (decide (A = B)))) ∧ True)) := by kernel_rfl
theorem c_eqSyntaxS (A B : List Syntax) (ih : ∀ x ∈ A, ∀ (y : Syntax), P_c_eqSyntax x y)  : P_c_eqSyntaxS A B := by
  refine CallOK.ofRun wide (run_c_eqSyntaxS A B) Try.call56 Try.func56 rfl rfl rfl ?_
  with_reducible repeat' (first | apply And.intro | exact flatI | exact flatS | exact rowLens | exact ih | (intro; skip) | apply obsN | apply obsC | apply obA | apply obM | apply obB | apply svA | apply tupA | apply lcA | apply lcS | apply svC | apply liC | apply lbC | apply lsC | apply vIc | apply vBc | apply vSc | apply vLc | apply mapC | apply Hc_eqSyntaxSLa | apply Ec_eqSyntaxSLa | apply Sc_eqSyntaxSLa | apply EW1c_eqSyntaxSLa)
  all_goals (try simp only [std] at *)
  all_goals (try (first | with_reducible apply ih | (simp only [← List.map_append]; first | with_reducible apply ih)))
  all_goals (try (first | with_reducible rfl | omega | assumption | (refine (decide_eq_true ?_).symm; assumption) | (refine (decide_eq_false ?_).symm; assumption) | (refine rowGet ?_; (first | omega | (simp only [std]; omega) | grind)) | (refine getC ?_ rfl; (first | omega | (simp only [std]; omega) | grind)) | (show (_ : St) = _; rfl) | grind [snocI, snocS, rowSnoc]))
theorem run_c_eqSyntax_s (x : Syntax) (y : Syntax) : aexec Try.prog (Option.getD (Func.body Try.f21) Code.skip) (entry [] [syntaxA x, syntaxA y] 32) [Orc.br [Orc.fin []] [Orc.br
 [Orc.fin []] [Orc.br [Orc.fin []] [Orc.call [Mode.rd, Mode.rd] [] (AV.sv (lb (decide (Syntax.scopes x = Syntax.scopes y)))), Orc.br [Orc.fin []] [Orc.call [Mode.rd, Mode.rd] []
 (AV.sv (lb (decide (Syntax.items x = Syntax.items y)))), Orc.br [Orc.fin []] [Orc.fin []]]]]]] (finK Try.prog [ResultVar.tmp 4] [] (AV.sv (lb (decide (x = y))))) = ((decide
 (Syntax.kind x ≠ Syntax.kind y) = true → ObsEq [] [] ∧ AV.sv (lb false) = AV.sv (lb (decide (x = y)))) ∧ (decide (Syntax.kind x ≠ Syntax.kind y) = false → (decide (Syntax.number x
 ≠ Syntax.number y) = true → ObsEq [] [] ∧ AV.sv (lb false) = AV.sv (lb (decide (x = y)))) ∧ (decide (Syntax.number x ≠ Syntax.number y) = false → (decide (Array.toList
 (ByteArray.data (Syntax.text x)) ≠ Array.toList (ByteArray.data (Syntax.text y))) = true → ObsEq [] [] ∧ AV.sv (lb false) = AV.sv (lb (decide (x = y)))) ∧ (decide (Array.toList
 (ByteArray.data (Syntax.text x)) ≠ Array.toList (ByteArray.data (Syntax.text y))) = false → P_c_eqIntS (Syntax.scopes x) (Syntax.scopes y) ∧ ((!decide (Syntax.scopes x =
 Syntax.scopes y)) = true → ObsEq [] [] ∧ AV.sv (lb false) = AV.sv (lb (decide (x = y)))) ∧ ((!decide (Syntax.scopes x = Syntax.scopes y)) = false → P_c_eqSyntaxS (Syntax.items x)
 (Syntax.items y) ∧ ((!decide (Syntax.items x = Syntax.items y)) = true → ObsEq [] [] ∧ AV.sv (lb false) = AV.sv (lb (decide (x = y)))) ∧ ((!decide (Syntax.items x = Syntax.items
 y)) = false → ObsEq [] [] ∧ AV.sv (lb true) = AV.sv (lb (decide (x = y))))))))) := by kernel_rfl
theorem c_eqSyntax_s (x y : Syntax) (ih : ∀ z ∈ x.items, ∀ (y : Syntax), P_c_eqSyntax z y)  : P_c_eqSyntax x y := by
  refine CallOK.ofRun wide (run_c_eqSyntax_s x y) Try.call21 Try.func21 rfl rfl rfl ?_
  simp only [syntaxExt]
  with_reducible repeat' (first | apply And.intro | exact flatI | exact flatS | exact rowLens | exact ih | (intro; skip) | apply obsN | apply obsC | apply obA | apply obM | apply obB | apply svA | apply tupA | apply lcA | apply lcS | apply svC | apply liC | apply lbC | apply lsC | apply vIc | apply vBc | apply vSc | apply vLc | apply mapC | apply c_eqIntS | apply c_eqSyntaxS | apply ih)
  all_goals (try simp only [std] at *)
  all_goals (try (first | with_reducible apply c_eqIntS | with_reducible apply c_eqSyntaxS | with_reducible apply ih | (simp only [← List.map_append]; first | with_reducible apply c_eqIntS | with_reducible apply c_eqSyntaxS | with_reducible apply ih)))
  all_goals (try (first | with_reducible rfl | omega | assumption | (refine (decide_eq_true ?_).symm; assumption) | (refine (decide_eq_false ?_).symm; assumption) | (refine rowGet ?_; (first | omega | (simp only [std]; omega) | grind)) | (refine getC ?_ rfl; (first | omega | (simp only [std]; omega) | grind)) | (show (_ : St) = _; rfl) | grind [bytes_ext, snocI, snocS, rowSnoc]))
theorem c_eqSyntax (x : Syntax) : ∀ (y : Syntax), P_c_eqSyntax x y := Syntax.ind (P := fun x => ∀ (y : Syntax), P_c_eqSyntax x y) (fun x ih y => c_eqSyntax_s x y ih) x
abbrev P_c_eqCaptureS (A : List Capture) (B : List Capture) : Prop := CallOK Try.prog 22 [] [ll (A.map captureC), ll (B.map captureC)] [] (.sv (lb (decide (A = B))))
abbrev P_c_eqCapture (x : Capture) (y : Capture) : Prop := CallOK Try.prog 57 [] [captureA x, captureA y] [] (.sv (lb (decide (x = y))))
def Tc_eqCaptureSLa (A : List Capture) (B : List Capture) (x0 : SV) : St := St.mk (regsOf 27 [(0, AV.sv (ll (List.map captureC A))), (1, AV.sv (ll (List.map captureC B))), (5,
 AV.sv x0)]) [] 0 
def Lc_eqCaptureSLa (A : List Capture) (B : List Capture) (k : Nat) : St := Tc_eqCaptureSLa A B (li (↑k : Int)) 
def Ic_eqCaptureSLa (A : List Capture) (B : List Capture) : Nat → St → Prop := Head (Lc_eqCaptureSLa A B) (fun k => k ≤ List.length A ∧ List.length A ≤ 9223372036854775807 ∧
 List.length A = List.length B ∧ List.take k A = List.take k B) fun k => List.length A - k 
def W0c_eqCaptureSLa (A : List Capture) (B : List Capture) : St := St.mk (regsOf 27 []) [] 0 
def W1c_eqCaptureSLa (A : List Capture) (B : List Capture) (x0 : SV) : St := St.mk (regsOf 27 [(4, AV.sv x0)]) [] 0 
def Yc_eqCaptureSLa (A : List Capture) (B : List Capture) : List (Prop × AEx × St) := [(A = B, AEx.exit 0, W0c_eqCaptureSLa A B), (A ≠ B, AEx.ret, W1c_eqCaptureSLa A B (lb false))]
theorem Hc_eqCaptureSLa {A : List Capture} {B : List Capture} {k : Nat} {m : Nat} (h : (fun k => k ≤ List.length A ∧ List.length A ≤ 9223372036854775807 ∧ List.length A =
 List.length B ∧ List.take k A = List.take k B) k) (hm : (fun k => List.length A - k) k = m) : Ic_eqCaptureSLa A B m (Lc_eqCaptureSLa A B k) := hm ▸ Head.mk h
theorem Ec_eqCaptureSLa {A : List Capture} {B : List Capture} {k : Nat} {x0 : SV} (h0 : x0 = (li (↑k : Int))) : Tc_eqCaptureSLa A B x0 = Lc_eqCaptureSLa A B k := by
  rw [h0]
  rfl
theorem EW1c_eqCaptureSLa {A : List Capture} {B : List Capture} {x0 y0 : SV} (h0 : x0 = y0) : W1c_eqCaptureSLa A B x0 = W1c_eqCaptureSLa A B y0 := by rw [h0]
theorem run_c_eqCaptureSLa (A : List Capture) (B : List Capture) (k : Nat) : aexec Try.prog (loopAt Try.f22 0) (Lc_eqCaptureSLa A B k) [Orc.br [Orc.draw [], Orc.cells (captureF
 (List.getD A k default)), Orc.cells (captureF (List.getD B k default)), Orc.call [Mode.rd, Mode.rd] [] (AV.sv (lb (decide (List.getD A k default = List.getD B k default)))),
 Orc.br [Orc.ghost (Ghost.sel [] [4]), Orc.out 1] [Orc.ghost (Ghost.sel [] [0, 1, 5]), Orc.goto (List.length A - (k + 1)) (Lc_eqCaptureSLa A B (k + 1))]] [Orc.ghost (Ghost.sel []
 []), Orc.out 0]] (loopK (Ic_eqCaptureSLa A B) (Yc_eqCaptureSLa A B) (List.length A - k)) = (List.length (List.map captureC A) ≤ 9223372036854775807 → (decide ((↑k : Int) <
 (↑(List.length (List.map captureC A)) : Int)) = true → (0 ≤ (↑k : Int) ∧ (List.map captureC A)[Int.toNat (↑k : Int)]? = some (captureF (List.getD A k default))) ∧ (0 ≤ (↑k : Int)
 ∧ (List.map captureC B)[Int.toNat (↑k : Int)]? = some (captureF (List.getD B k default))) ∧ P_c_eqCapture (List.getD A k default) (List.getD B k default) ∧ ((!decide (List.getD A
 k default = List.getD B k default)) = true → A ≠ B ∧ W1c_eqCaptureSLa A B (lb false) = W1c_eqCaptureSLa A B (lb false)) ∧ ((!decide (List.getD A k default = List.getD B k
 default)) = false → rng IntKind.i64 ((↑k : Int) + 1) ∧ List.length A - (k + 1) < List.length A - k ∧ Tc_eqCaptureSLa A B (li ((↑k : Int) + 1)) = Lc_eqCaptureSLa A B (k + 1) ∧
 Ic_eqCaptureSLa A B (List.length A - (k + 1)) (Lc_eqCaptureSLa A B (k + 1)))) ∧ (decide ((↑k : Int) < (↑(List.length (List.map captureC A)) : Int)) = false → A = B ∧
 W0c_eqCaptureSLa A B = W0c_eqCaptureSLa A B)) := by kernel_rfl
theorem Sc_eqCaptureSLa (A : List Capture) (B : List Capture) (ih : ∀ (x : Capture), x ∈ A → ∀ (y : Capture), P_c_eqCapture x y)  : LoopSem Try.prog (loopAt Try.f22 0)
 (Ic_eqCaptureSLa A B) (Yc_eqCaptureSLa A B) := by
  refine LoopSem.ofHead wide fun k h => ⟨_, _, run_c_eqCaptureSLa A B k, ?_⟩
  with_reducible repeat' (first | apply And.intro | exact flatI | exact flatS | exact rowLens | exact ih | (intro; skip) | apply obsN | apply obsC | apply obA | apply obM | apply obB | apply svA | apply tupA | apply lcA | apply lcS | apply svC | apply liC | apply lbC | apply lsC | apply vIc | apply vBc | apply vSc | apply vLc | apply mapC | apply Hc_eqCaptureSLa | apply Ec_eqCaptureSLa | apply EW1c_eqCaptureSLa | apply ih)
  all_goals (try simp only [std] at *)
  all_goals (try (first | with_reducible apply ih | (simp only [← List.map_append]; first | with_reducible apply ih)))
  all_goals (try (first | with_reducible rfl | omega | assumption | (refine (decide_eq_true ?_).symm; assumption) | (refine (decide_eq_false ?_).symm; assumption) | (refine rowGet ?_; (first | omega | (simp only [std]; omega) | grind)) | (refine getC ?_ rfl; (first | omega | (simp only [std]; omega) | grind)) | (show (_ : St) = _; rfl) | grind [take_eq, getD_mem', snocI, snocS, rowSnoc]))
theorem run_c_eqCaptureS (A : List Capture) (B : List Capture) : aexec Try.prog (Option.getD (Func.body Try.f22) Code.skip) (entry [] [ll (List.map captureC A), ll (List.map
 captureC B)] 27) [Orc.br [Orc.fin []] [Orc.ghost (Ghost.sel [] [0, 1, 5]), Orc.loop (List.length A - 0) (Lc_eqCaptureSLa A B 0) (Ic_eqCaptureSLa A B) [(A = B, AEx.exit 0,
 W0c_eqCaptureSLa A B, [Orc.fin []]), (A ≠ B, AEx.ret, W1c_eqCaptureSLa A B (lb false), [Orc.fin []])]]] (finK Try.prog [ResultVar.tmp 4] [] (AV.sv (lb (decide (A = B))))) =
 (List.length (List.map captureC A) ≤ 9223372036854775807 → List.length (List.map captureC B) ≤ 9223372036854775807 → (decide ((↑(List.length (List.map captureC A)) : Int) ≠
 (↑(List.length (List.map captureC B)) : Int)) = true → ObsEq [] [] ∧ AV.sv (lb false) = AV.sv (lb (decide (A = B)))) ∧ (decide ((↑(List.length (List.map captureC A)) : Int) ≠
 (↑(List.length (List.map captureC B)) : Int)) = false → Tc_eqCaptureSLa A B (li 0) = Lc_eqCaptureSLa A B 0 ∧ Ic_eqCaptureSLa A B (List.length A - 0) (Lc_eqCaptureSLa A B 0) ∧
 LoopSem Try.prog (loopAt Try.f22 0) (Ic_eqCaptureSLa A B) (Yc_eqCaptureSLa A B) ∧ (A = B → ObsEq [] [] ∧ AV.sv (lb true) = AV.sv (lb (decide (A = B)))) ∧ ((A = B → False) → ObsEq
 [] [] ∧ AV.sv (lb false) = AV.sv (lb (decide (A = B)))) ∧ True)) := by kernel_rfl
theorem c_eqCaptureS (A B : List Capture) (ih : ∀ x ∈ A, ∀ (y : Capture), P_c_eqCapture x y)  : P_c_eqCaptureS A B := by
  refine CallOK.ofRun wide (run_c_eqCaptureS A B) Try.call22 Try.func22 rfl rfl rfl ?_
  with_reducible repeat' (first | apply And.intro | exact flatI | exact flatS | exact rowLens | exact ih | (intro; skip) | apply obsN | apply obsC | apply obA | apply obM | apply obB | apply svA | apply tupA | apply lcA | apply lcS | apply svC | apply liC | apply lbC | apply lsC | apply vIc | apply vBc | apply vSc | apply vLc | apply mapC | apply Hc_eqCaptureSLa | apply Ec_eqCaptureSLa | apply Sc_eqCaptureSLa | apply EW1c_eqCaptureSLa)
  all_goals (try simp only [std] at *)
  all_goals (try (first | with_reducible apply ih | (simp only [← List.map_append]; first | with_reducible apply ih)))
  all_goals (try (first | with_reducible rfl | omega | assumption | (refine (decide_eq_true ?_).symm; assumption) | (refine (decide_eq_false ?_).symm; assumption) | (refine rowGet ?_; (first | omega | (simp only [std]; omega) | grind)) | (refine getC ?_ rfl; (first | omega | (simp only [std]; omega) | grind)) | (show (_ : St) = _; rfl) | grind [snocI, snocS, rowSnoc]))
theorem run_c_eqCapture_s (x : Capture) (y : Capture) : aexec Try.prog (Option.getD (Func.body Try.f57) Code.skip) (entry [] [captureA x, captureA y] 28) [Orc.call [Mode.rd,
 Mode.rd] [] (AV.sv (lb (decide (Capture.name x = Capture.name y)))), Orc.br [Orc.fin []] [Orc.br [Orc.fin []] [Orc.call [Mode.rd, Mode.rd] [] (AV.sv (lb (decide (Capture.form x =
 Capture.form y)))), Orc.br [Orc.fin []] [Orc.call [Mode.rd, Mode.rd] [] (AV.sv (lb (decide (Capture.each x = Capture.each y)))), Orc.br [Orc.fin []] [Orc.fin []]]]]] (finK
 Try.prog [ResultVar.tmp 4] [] (AV.sv (lb (decide (x = y))))) = (P_c_eqSyntax (Capture.name x) (Capture.name y) ∧ ((!decide (Capture.name x = Capture.name y)) = true → ObsEq [] []
 ∧ AV.sv (lb false) = AV.sv (lb (decide (x = y)))) ∧ ((!decide (Capture.name x = Capture.name y)) = false → (decide (Capture.depth x ≠ Capture.depth y) = true → ObsEq [] [] ∧ AV.sv
 (lb false) = AV.sv (lb (decide (x = y)))) ∧ (decide (Capture.depth x ≠ Capture.depth y) = false → P_c_eqSyntax (Capture.form x) (Capture.form y) ∧ ((!decide (Capture.form x =
 Capture.form y)) = true → ObsEq [] [] ∧ AV.sv (lb false) = AV.sv (lb (decide (x = y)))) ∧ ((!decide (Capture.form x = Capture.form y)) = false → P_c_eqCaptureS (Capture.each x)
 (Capture.each y) ∧ ((!decide (Capture.each x = Capture.each y)) = true → ObsEq [] [] ∧ AV.sv (lb false) = AV.sv (lb (decide (x = y)))) ∧ ((!decide (Capture.each x = Capture.each
 y)) = false → ObsEq [] [] ∧ AV.sv (lb true) = AV.sv (lb (decide (x = y)))))))) := by kernel_rfl
theorem c_eqCapture_s (x y : Capture) (ih : ∀ z ∈ x.each, ∀ (y : Capture), P_c_eqCapture z y)  : P_c_eqCapture x y := by
  refine CallOK.ofRun wide (run_c_eqCapture_s x y) Try.call57 Try.func57 rfl rfl rfl ?_
  simp only [captureExt]
  with_reducible repeat' (first | apply And.intro | exact flatI | exact flatS | exact rowLens | exact ih | (intro; skip) | apply obsN | apply obsC | apply obA | apply obM | apply obB | apply svA | apply tupA | apply lcA | apply lcS | apply svC | apply liC | apply lbC | apply lsC | apply vIc | apply vBc | apply vSc | apply vLc | apply mapC | apply c_eqSyntax | apply c_eqCaptureS | apply ih)
  all_goals (try simp only [std] at *)
  all_goals (try (first | with_reducible apply c_eqSyntax | with_reducible apply c_eqCaptureS | with_reducible apply ih | (simp only [← List.map_append]; first | with_reducible apply c_eqSyntax | with_reducible apply c_eqCaptureS | with_reducible apply ih)))
  all_goals (try (first | with_reducible rfl | omega | assumption | (refine (decide_eq_true ?_).symm; assumption) | (refine (decide_eq_false ?_).symm; assumption) | (refine rowGet ?_; (first | omega | (simp only [std]; omega) | grind)) | (refine getC ?_ rfl; (first | omega | (simp only [std]; omega) | grind)) | (show (_ : St) = _; rfl) | grind [bytes_ext, snocI, snocS, rowSnoc]))
theorem c_eqCapture (x : Capture) : ∀ (y : Capture), P_c_eqCapture x y := Capture.ind (P := fun x => ∀ (y : Capture), P_c_eqCapture x y) (fun x ih y => c_eqCapture_s x y ih) x
end Go.Proofs.Ytegbadciefljcaa
end
section
namespace Go.Proofs.Ytegbadciefljcaa
open Go Go.Proofs.Ytegbadciefljcaa.Ab
set_option linter.unusedVariables false
set_option linter.unusedSimpArgs false
set_option maxHeartbeats 4000000
theorem okScN_ge (L : List Int) : ∀ k, okScN L k = true → k = 0 ∨ ((k : Int) ≤ L.getD (k - 1) default ∧ L.getD (k - 1) default ≤ 99999)
  | 0, _ => .inl rfl
  | k + 1, h => by
    simp only [okScN, Bool.and_eq_true, Bool.or_eq_true, decide_eq_true_eq] at h
    have ih := okScN_ge L k h.1.1
    right
    rw [Nat.add_sub_cancel]
    rcases ih with rfl | ih
    · exact ⟨by omega, h.1.2.2⟩
    · rcases h.2 with h2 | h2
      · subst h2; exact ⟨by omega, h.1.2.2⟩
      · exact ⟨by omega, h.1.2.2⟩
theorem okSc_len {L : List Int} (h : okSc L = true) : L.length ≤ 99999 := by
  rcases okScN_ge L L.length h with h | h <;> omega
theorem okY_cY : ∀ s : Syntax, okY s = true → cY s ≤ 100002 * sizeY s := by
  refine Syntax.ind fun s ih h => ?_
  rw [okY_eq, Bool.and_eq_true, List.all_eq_true] at h
  have h1 : s.scopes.length ≤ 99999 := by
    have := h.2
    simp only [nodY0, Bool.and_eq_true] at this
    exact okSc_len this.1.2
  have h2 : ∀ L : List Syntax, (∀ x ∈ L, cY x ≤ 100002 * sizeY x) → sumBy cY L ≤ 100002 * sumBy sizeY L := by
    intro L
    induction L with
    | nil => intro _; exact Nat.le_refl _
    | cons x r ihr =>
      intro hL
      have a := hL x List.mem_cons_self
      have b := ihr fun y hy => hL y (List.mem_cons_of_mem _ hy)
      simp only [sumBy]; omega
  have h3 := h2 s.items fun x hx => ih x hx (h.1 x hx)
  rw [cY_eq, sizeY_eq]; omega
theorem insY_c (t : Syntax) (C : List Capture) : cY (insY t C) ≤ 200004000 := by
  unfold insY; split
  · rename_i h
    simp only [insB, Bool.and_eq_true] at h
    have h1 := h.2
    simp only [isSyn, Bool.and_eq_true, decide_eq_true_eq] at h1
    have := okY_cY _ h1.2
    omega
  · show cY zY ≤ _
    have : cY zY = 3 := rfl
    omega
abbrev P_c_LIns (t : Syntax) (C : List Capture) : Prop := CallOK Try.prog 5 [] [syntaxA t, ll (C.map captureC)] [] (.sv (lb true))
abbrev a2_c_LIns (t : Syntax) (C : List Capture) := (seqM mkY cY (Syntax.items (insY t C)) (1 + (↑(List.length (Syntax.scopes (insY t C))) : Int)))
abbrev a1_c_LIns (t : Syntax) (C : List Capture) := (1 + (↑(List.length (seqM mkI cOne (Syntax.scopes (insY t C)) 1)) : Int) + (↑(sumBy cY (a2_c_LIns t C)) : Int) ≠ 1 +
 (↑(List.length (Syntax.scopes (insY t C))) : Int) + (↑(sumBy cY (Syntax.items (insY t C))) : Int))
abbrev a3_c_LIns (t : Syntax) := (1 + (↑(List.length (Syntax.scopes t)) : Int) + (↑(sumBy cY (Syntax.items t)) : Int))
theorem run_c_LIns (t : Syntax) (C : List Capture) : aexec Try.prog (Option.getD (Func.body Try.f5) Code.skip) (entry [] [syntaxA t, ll (List.map captureC C)] 119) [Orc.call
 [Mode.rd, Mode.rd] [] (AV.sv (li (sz (wY t) 1048576))), Orc.br [Orc.fin []] [Orc.call [Mode.rd, Mode.rd] [] (AV.sv (li (sz (List.length C + sumBy wP C) (sz (wY t) 1048576)))),
 Orc.br [Orc.fin []] [Orc.call [Mode.rd] (syntaxO t) (AV.sv (syntaxR t 0)), Orc.call [Mode.rd] [Ob.arr true 12 (List.map captureC C)] (AV.sv (SV.one (AC.ref 0))), Orc.call
 [Mode.rd, Mode.rd] (syntaxO (insY t C)) (AV.tup [syntaxR (insY t C) 0, lb (insB t C)]), Orc.call [Mode.rd] (syntaxO t) (AV.sv (syntaxR t 0)), Orc.call [Mode.rd] [Ob.arr true 12
 (List.map captureC C)] (AV.sv (SV.one (AC.ref 0))), Orc.call [Mode.rd, Mode.rd] (syntaxO (insY t C)) (AV.tup [syntaxR (insY t C) 0, lb (insB t C)]), Orc.call [Mode.rd, Mode.rd] []
 (AV.sv (lb (decide (insY t C = insY t C)))), Orc.br [Orc.bool true, Orc.fin []] [Orc.br [Orc.fin []] [Orc.draw [], Orc.call [Mode.rd] (syntaxO t) (AV.sv (syntaxR t 0)), Orc.call
 [Mode.rd, Mode.rd] [] (AV.sv (lb (decide (t = t)))), Orc.br [Orc.fin []] [Orc.call [Mode.rd] [Ob.arr true 12 (List.map captureC C)] (AV.sv (SV.one (AC.ref 0))), Orc.call [Mode.rd,
 Mode.rd] [] (AV.sv (lb (decide (C = C)))), Orc.br [Orc.fin []] [Orc.call [Mode.agg [none, none, none, some (true, 1), some (true, 5)], Mode.rd] [Ob.arr true 1 (List.map intC (seqM
 mkI cOne (Syntax.scopes t) 1)), Ob.arr true 5 (List.map syntaxC (seqM mkY cY (Syntax.items t) (1 + (↑(List.length (Syntax.scopes t)) : Int))))] (AV.sv (li (a3_c_LIns t))),
 Orc.call [Mode.own true 12, Mode.rd] [Ob.arr true 12 (List.map captureC (seqM mkP cP C (a3_c_LIns t)))] (AV.sv (li (1 + (↑(List.length (Syntax.scopes t)) : Int) + (↑(sumBy cY
 (Syntax.items t)) : Int) + (↑(sumBy cP C) : Int)))), Orc.bool false, Orc.call [Mode.rd, Mode.rd] [] (AV.sv (lb (decide (insY t C = insY t C)))), Orc.br [Orc.bool true, Orc.fin []]
 [Orc.br [Orc.fin []] [Orc.call [Mode.agg [none, none, none, some (true, 1), some (true, 5)], Mode.rd] [Ob.arr true 1 (List.map intC (seqM mkI cOne (Syntax.scopes (insY t C)) 1)),
 Ob.arr true 5 (List.map syntaxC (a2_c_LIns t C))] (AV.sv (li (1 + (↑(List.length (Syntax.scopes (insY t C))) : Int) + (↑(sumBy cY (Syntax.items (insY t C))) : Int)))), Orc.call
 [Mode.rd, Mode.rd] [] (AV.sv (li (1 + (↑(List.length (seqM mkI cOne (Syntax.scopes (insY t C)) 1)) : Int) + (↑(sumBy cY (a2_c_LIns t C)) : Int)))), Orc.bool false, Orc.br [Orc.fin
 []] [Orc.call [Mode.rd] (syntaxO t) (AV.sv (syntaxR t 0)), Orc.call [Mode.rd] [Ob.arr true 12 (List.map captureC C)] (AV.sv (SV.one (AC.ref 0))), Orc.call [Mode.rd, Mode.rd]
 (syntaxO (insY t C)) (AV.tup [syntaxR (insY t C) 0, lb (insB t C)]), Orc.call [Mode.rd, Mode.rd] [] (AV.sv (lb (decide (insY t C = insY t C)))), Orc.br [Orc.bool true, Orc.fin []]
 [Orc.br [Orc.fin []] [Orc.call [Mode.rd, Mode.rd] [] (AV.sv (li (1 + (↑(List.length (seqM mkI cOne (Syntax.scopes (insY t C)) 1)) : Int) + (↑(sumBy cY (a2_c_LIns t C)) : Int)))),
 Orc.bool false, Orc.br [Orc.fin []] [Orc.fin []]]]]]]]]]]]]] (finK Try.prog [ResultVar.tmp 4] [] (AV.sv (lb true))) = (P_c_szSyntax t 1048576 ∧ (decide (sz (wY t) (1048576 : Int)
 < 0) = true → ObsEq [] [] ∧ AV.sv (lb true) = AV.sv (lb true)) ∧ (decide (sz (wY t) (1048576 : Int) < 0) = false → P_c_szCaptureS C (sz (wY t) 1048576) ∧ (decide (sz (List.length
 C + sumBy wP C) (sz (wY t) 1048576) < 0) = true → ObsEq [] [] ∧ AV.sv (lb true) = AV.sv (lb true)) ∧ (decide (sz (List.length C + sumBy wP C) (sz (wY t) 1048576) < 0) = false →
 P_c_toSyntax t ∧ P_c_toCaptureS C ∧ P_c_sIns t C ∧ P_c_toSyntax t ∧ P_c_toCaptureS C ∧ P_c_iIns t C ∧ P_c_eqSyntax (insY t C) (insY t C) ∧ ((!decide (insY t C = insY t C)) = true
 → true = true ∧ ObsEq [] [] ∧ AV.sv (lb false) = AV.sv (lb true)) ∧ ((!decide (insY t C = insY t C)) = false → (decide (insB t C ≠ insB t C) = true → ObsEq [] [] ∧ AV.sv (lb
 false) = AV.sv (lb true)) ∧ (decide (insB t C ≠ insB t C) = false → P_c_toSyntax t ∧ P_c_eqSyntax t t ∧ ((!decide (t = t)) = true → ObsEq [] [] ∧ AV.sv (lb false) = AV.sv (lb
 true)) ∧ ((!decide (t = t)) = false → P_c_toCaptureS C ∧ P_c_eqCaptureS C C ∧ ((!decide (C = C)) = true → ObsEq [] [] ∧ AV.sv (lb false) = AV.sv (lb true)) ∧ ((!decide (C = C)) =
 false → P_c_markSyntax t 1 ∧ CallOK Try.prog 24 [Ob.arr true 12 (List.map captureC C)] [SV.one (AC.ref 0), li (a3_c_LIns t)] [Ob.arr true 12 (List.map captureC (seqM mkP cP C
 (a3_c_LIns t)))] (AV.sv (li (1 + (↑(List.length (Syntax.scopes t)) : Int) + (↑(sumBy cY (Syntax.items t)) : Int) + (↑(sumBy cP C) : Int)))) ∧ false = false ∧ P_c_eqSyntax (insY t
 C) (insY t C) ∧ ((!decide (insY t C = insY t C)) = true → true = true ∧ ObsEq [] [] ∧ AV.sv (lb false) = AV.sv (lb true)) ∧ ((!decide (insY t C = insY t C)) = false → (decide
 (insB t C ≠ insB t C) = true → ObsEq [] [] ∧ AV.sv (lb false) = AV.sv (lb true)) ∧ (decide (insB t C ≠ insB t C) = false → P_c_markSyntax (insY t C) 1 ∧ P_c_heldSyntax (Syntax.mk
 (Syntax.kind (insY t C)) (Syntax.number (insY t C)) (Syntax.text (insY t C)) (seqM mkI cOne (Syntax.scopes (insY t C)) 1) (a2_c_LIns t C)) 1 ∧ false = false ∧ (decide (a1_c_LIns t
 C) = true → ObsEq [] [] ∧ AV.sv (lb false) = AV.sv (lb true)) ∧ (decide (a1_c_LIns t C) = false → P_c_toSyntax t ∧ P_c_toCaptureS C ∧ P_c_iIns t C ∧ P_c_eqSyntax (insY t C) (insY
 t C) ∧ ((!decide (insY t C = insY t C)) = true → true = true ∧ ObsEq [] [] ∧ AV.sv (lb false) = AV.sv (lb true)) ∧ ((!decide (insY t C = insY t C)) = false → (decide (insB t C ≠
 insB t C) = true → ObsEq [] [] ∧ AV.sv (lb false) = AV.sv (lb true)) ∧ (decide (insB t C ≠ insB t C) = false → P_c_heldSyntax (Syntax.mk (Syntax.kind (insY t C)) (Syntax.number
 (insY t C)) (Syntax.text (insY t C)) (seqM mkI cOne (Syntax.scopes (insY t C)) 1) (a2_c_LIns t C)) 1 ∧ false = false ∧ (decide (a1_c_LIns t C) = true → ObsEq [] [] ∧ AV.sv (lb
 false) = AV.sv (lb true)) ∧ (decide (a1_c_LIns t C) = false → ObsEq [] [] ∧ AV.sv (lb true) = AV.sv (lb true)))))))))))))) := by kernel_rfl
theorem c_LIns (t : Syntax) (C : List Capture)  : P_c_LIns t C := by
  refine CallOK.ofRun wide (run_c_LIns t C) Try.call5 Try.func5 rfl rfl rfl ?_
  try delta a2_c_LIns a1_c_LIns a3_c_LIns
  have h1 := sumBy_le16 C fun y _ => cP_le y
  have h3 := insY_c t C
  have h4 := cY_eq (insY t C)
  have h7 := cY_le t
  have h8 := cY_eq t
  have h9 : ∀ z ∈ C, wP z ≤ sumBy wP C := fun z hz => sumBy_mem wP hz
  with_reducible repeat' (first | apply And.intro | exact flatI | exact flatS | exact rowLens | (intro; skip) | apply obsN | apply obsC | apply obA | apply obM | apply obB | apply svA | apply tupA | apply lcA | apply lcS | apply svC | apply liC | apply lbC | apply lsC | apply vIc | apply vBc | apply vSc | apply vLc | apply mapC | apply c_szSyntax | apply c_szCaptureS | apply c_szCapture | apply c_toCapture | apply c_eqCapture | apply c_toSyntax | apply c_toCaptureS | apply c_eqSyntax | apply c_eqCaptureS | apply c_sIns | apply c_iIns | apply c_markSyntax | apply c_markCaptureS | apply c_markCaptureSL | apply c_heldSyntax)
  all_goals (try simp only [std, stdM] at *)
  all_goals (try (first | with_reducible apply c_szSyntax | with_reducible apply c_szCaptureS | with_reducible apply c_szCapture | with_reducible apply c_toCapture | with_reducible apply c_eqCapture | with_reducible apply c_toSyntax | with_reducible apply c_toCaptureS | with_reducible apply c_eqSyntax | with_reducible apply c_eqCaptureS | with_reducible apply c_sIns | with_reducible apply c_iIns | with_reducible apply c_markSyntax | with_reducible apply c_markCaptureS | with_reducible apply c_markCaptureSL | with_reducible apply c_heldSyntax | (simp only [← List.map_append]; first | with_reducible apply c_szSyntax | with_reducible apply c_szCaptureS | with_reducible apply c_szCapture | with_reducible apply c_toCapture | with_reducible apply c_eqCapture | with_reducible apply c_toSyntax | with_reducible apply c_toCaptureS | with_reducible apply c_eqSyntax | with_reducible apply c_eqCaptureS | with_reducible apply c_sIns | with_reducible apply c_iIns | with_reducible apply c_markSyntax | with_reducible apply c_markCaptureS | with_reducible apply c_markCaptureSL | with_reducible apply c_heldSyntax)))
  all_goals (try (first | with_reducible rfl | omega | assumption | (refine (decide_eq_true ?_).symm; assumption) | (refine (decide_eq_false ?_).symm; assumption) | (refine rowGet ?_; (first | omega | (simp only [std, stdM]; omega) | grind)) | (refine getC ?_ rfl; (first | omega | (simp only [std, stdM]; omega) | grind)) | (refine fill_step ?_ ?_; (first | omega | (simp only [std, stdM]; omega) | grind); (first | rfl | exact (Row.eq _).trans rfl)) | (refine fill_init ?_; (first | rfl | exact (Row.eq _).trans rfl)) | (refine set_row ?_; (simp only [List.length_map, List.length_set, mkTo_len]; omega)) | (refine mkToRow ?_; (first | omega | (simp only [std, stdM]; omega) | grind)) | (refine mkTo_row ?_ rfl; (first | omega | (simp only [std, stdM]; omega) | grind)) | (refine mkTo_step ?_ ?_; (first | omega | (simp only [std, stdM]; omega) | grind); (first | grind [sz, seqM_idem, seqM_len, sum_seqM, snocI, snocS, rowSnoc])) | (show (_ : St) = _; rfl) | grind [sz, seqM_idem, seqM_len, sum_seqM, snocI, snocS, rowSnoc]))
end Go.Proofs.Ytegbadciefljcaa
end
section
namespace Go.Proofs.Ytegbadciefljcaa.fnExactInstantiate
open Go Go.ChangeShapes Go.WideShapes Go.ChangeAt Go.RowKit Go.Proofs.Ytegbadciefljcaa.Ab
set_option linter.unusedVariables false
theorem own : ownKnob Try.prog.godebug = none := by kernel_rfl
theorem laid : laidOutB Try.prog = true := by kernel_rfl
theorem rowed : mapsRowed Try.prog = true := by kernel_rfl
theorem sized : ((List.range Try.prog.types.size).all fun t => match Try.prog.underlying t with | some (.slice e) => decide (0 < Try.prog.cellsOf e) | _ => true) = true := by kernel_rfl
set_option maxRecDepth 100000 in
theorem lifted (os : Os) (started : os.Started) (H : Type) (enc : TypeId × Value → H) :
    ReturnsInHanded {} Try.checked os 5 .any (Rows.fnExactInstantiateSpec.pre6 enc Try.prog Try.f5 Rows.fnExactInstantiateRow.domain false) (Rows.fnExactInstantiateSpec.post enc Try.prog Try.f5 false true false false) := by
  refine returnsInHanded_of_change (C := Try.checked) own started (by kernel_rfl) Try.func5
    (ChangeSpec.witness6 (enc := enc) (C := Try.checked) false ⟨#[], #[.agg #[.int .i64 0, .int .i64 0, .string ⟨#[]⟩, .slice none 0 0, .slice none 0 0], .slice none 0 0], []⟩ 12 (by kernel_rfl) (by kernel_rfl) (by kernel_rfl) (by kernel_rfl)) ?_
  intro W base args ds gs before hval0 hW hcnd _
  have hval : ∀ (j : Nat) t v, Try.f5.params[j]? = some t → args[j]? = some v → Value.okWide Try.prog W .any base t v := hval0
  have hW' := hW
  obtain ⟨p, q, hA0, hV, rfl, hfz, hnd⟩ := hW
  obtain ⟨rfl, rfl⟩ := trodVars_none hV
  have hA : DataW.TrodAll enc Try.prog W 0 (fun _ => true) true Try.f5.params.toList args.toList ds p := hA0
  rw [Try.params5] at hA hval
  have hA2 := hA
  clear hA0 hval0
  obtain ⟨v0, vs0, d0, ds0, p0, q0, hargs0, rfl, rfl, h0, r0⟩ := trodAll_cons hA
  obtain ⟨v1, vs1, d1, ds1, p1, q1, hargs1, rfl, rfl, h1, r1⟩ := trodAll_cons r0
  obtain ⟨rfl, rfl, rfl⟩ := trodAll_nil r1
  obtain rfl : args = #[v0, v1] := by cases args; simp_all
  obtain ⟨a0, c0⟩ := (let ⟨fuel, hf⟩ := h0; rd_syntax fuel _ _ hf)
  have s0 : SVRel W (allI W) (obOf []) (syntaxA a0) v0 := agg_rel (let ⟨cs, h, _⟩ := okWide_struct Try.underlying42 (hval 0 42 v0 rfl rfl); ⟨cs, h⟩) c0
  obtain ⟨a1, c1⟩ := (let ⟨fuel, hf⟩ := h1; rd_slice (C := captureC) Try.underlying43 (by rw [show Try.prog.cellsOf 84 = 12 from by kernel_rfl]; decide) (fun a => by rw [captureC_eq]; kernel_rfl) (fun m hm cs x h => by obtain ⟨a, ha⟩ := rd_capture m cs x h; exact ⟨a, by rw [captureC_eq]; exact ha⟩) hf)
  have s1 : SVRel W (allI W) (obOf []) (ll (a1.map captureC)) v1 := one_rel (by obtain ⟨_, _, _, rfl⟩ := okWide_slice Try.underlying43 (hval 1 43 v1 rfl rfl); rfl) c1
  refine (CallOK.kept (w := W) (vals := #[v0, v1]) (c_LIns a0 a1) ⟨s0, s1, trivial⟩).mono fun e W' ⟨he, hg, _⟩ => ?_
  subst he
  exact ⟨_, rfl, post_of_kept (pv := []) hW' (fun _ _ _ => (trodAll_cons_mk (shut_bool Try.underlying4 _) trodAll_mk0))
    (fun sp hsp => trodAll_kept laid rowed sized hg (by decide +kernel) hA2 fun y hy => hsp y (by simpa using hy)) (fun _ _ => rfl) rfl
    hg (ok_one (by kernel_rfl) rfl (okWide_bool_mk Try.underlying4 _))⟩
set_option maxRecDepth 100000 in
set_option maxHeartbeats 0 in
theorem facts : joinedFacts Try.pinned.checked.prog 5 Try.f5 Rows.fnExactInstantiateSpec Rows.fnExactInstantiateRow = true := by
  delta joinedFacts
  with_reducible repeat' apply and_i
  all_goals (first | with_reducible exact enters | (rw [makes]; kernel_rfl) | (rw [lifts]; kernel_rfl) | decide +kernel)
theorem over : Rows.fnExactInstantiateRow.holds Try.pinned (OpenSpec.ofChange Rows.fnExactInstantiateSpec) :=
  OpenClaim.holds_of_wide 5 Try.f5 rfl rfl rfl rfl rfl rfl rfl ⟨rfl, rfl, rfl, rfl, rfl⟩ rfl rfl rfl rfl rfl (by kernel_rfl) Try.func5 facts
    (of_decide_eq_true (by kernel_rfl)) (by unfold Func.isWrapper; first | (rw [if_pos (by decide +kernel)]; kernel_rfl) | (rw [if_neg (by decide +kernel)]; exact ⟨rfl, rfl⟩))
    (fun os started H enc _ => lifted os started H enc)
theorem proved : Rows.FnExactInstantiateSaid :=
  over
end Go.Proofs.Ytegbadciefljcaa.fnExactInstantiate
end
