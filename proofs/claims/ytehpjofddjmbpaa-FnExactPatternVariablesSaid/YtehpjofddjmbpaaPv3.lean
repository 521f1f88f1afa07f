/- The law FnExactPatternVariables holds: PatternVariables answers as the reference's does. No condition. -/
import Derived.Test.YtehpjofddjmbpaaPv2
section
namespace Go.Proofs.Ytehpjofddjmbpaa
open Go Go.Proofs.Ytehpjofddjmbpaa.Ab
set_option linter.unusedVariables false
set_option linter.unusedSimpArgs false
set_option maxHeartbeats 4000000
abbrev P_c_heldIntS (L : List Int) (n : Int) : Prop := CallOK Try.prog 32 [] [ll (L.map intC), li n] [] (.sv (li (n + L.length)))
def Tc_heldIntSLa (L : List Int) (n : Int) (x0 : SV) (x1 : SV) : St := St.mk (regsOf 21 [(0, AV.sv (ll (List.map intC L))), (1, AV.sv x1), (5, AV.sv x0)]) [] 0 
def Lc_heldIntSLa (L : List Int) (n : Int) (k : Nat) : St := Tc_heldIntSLa L n (li (↑k : Int)) (li (n + (↑k : Int))) 
def Ic_heldIntSLa (L : List Int) (n : Int) : Nat → St → Prop := Head (Lc_heldIntSLa L n) (fun k => k ≤ List.length L ∧ List.length L ≤ 9223372036854775807) fun k => List.length L -
 k 
def W0c_heldIntSLa (L : List Int) (n : Int) (x0 : SV) : St := St.mk (regsOf 21 [(1, AV.sv x0)]) [] 0 
def W1c_heldIntSLa (L : List Int) (n : Int) (x0 : SV) : St := St.mk (regsOf 21 [(4, AV.sv x0)]) [] 0 
def Yc_heldIntSLa (L : List Int) (n : Int) : List (Prop × AEx × St) := [(True, AEx.exit 0, W0c_heldIntSLa L n (li (n + (↑(List.length L) : Int)))), (False, AEx.ret, W1c_heldIntSLa
 L n (li (-1 : Int)))]
theorem Hc_heldIntSLa {L : List Int} {n : Int} {k : Nat} {m : Nat} (h : (fun k => k ≤ List.length L ∧ List.length L ≤ 9223372036854775807) k) (hm : (fun k => List.length L - k) k =
 m) : Ic_heldIntSLa L n m (Lc_heldIntSLa L n k) := hm ▸ Head.mk h
theorem Ec_heldIntSLa {L : List Int} {n : Int} {k : Nat} {x0 : SV} {x1 : SV} (h0 : x0 = (li (↑k : Int))) (h1 : x1 = (li (n + (↑k : Int)))) : Tc_heldIntSLa L n x0 x1 = Lc_heldIntSLa
 L n k := by
  rw [h0, h1]
  rfl
theorem EW0c_heldIntSLa {L : List Int} {n : Int} {x0 y0 : SV} (h0 : x0 = y0) : W0c_heldIntSLa L n x0 = W0c_heldIntSLa L n y0 := by rw [h0]
theorem EW1c_heldIntSLa {L : List Int} {n : Int} {x0 y0 : SV} (h0 : x0 = y0) : W1c_heldIntSLa L n x0 = W1c_heldIntSLa L n y0 := by rw [h0]
theorem run_c_heldIntSLa (L : List Int) (n : Int) (k : Nat) : aexec Try.prog (loopAt Try.f32 0) (Lc_heldIntSLa L n k) [Orc.br [Orc.cells (intC (List.getD L k default)), Orc.br
 [Orc.ghost (Ghost.sel [] [4]), Orc.out 1] [Orc.ghost (Ghost.sel [] [0, 1, 5]), Orc.goto (List.length L - (k + 1)) (Lc_heldIntSLa L n (k + 1))]] [Orc.ghost (Ghost.sel [] [1]),
 Orc.out 0]] (loopK (Ic_heldIntSLa L n) (Yc_heldIntSLa L n) (List.length L - k)) = (List.length (List.map intC L) ≤ 9223372036854775807 → (decide ((↑k : Int) < (↑(List.length
 (List.map intC L)) : Int)) = true → (0 ≤ (↑k : Int) ∧ (List.map intC L)[Int.toNat (↑k : Int)]? = some [cI (List.getD L k 0)]) ∧ (decide (List.getD L k (0 : Int) ≠ n + (↑k : Int))
 = true → False ∧ W1c_heldIntSLa L n (li (-1 : Int)) = W1c_heldIntSLa L n (li (-1 : Int))) ∧ (decide (List.getD L k (0 : Int) ≠ n + (↑k : Int)) = false → rng IntKind.i64 (n + (↑k :
 Int) + 1) ∧ rng IntKind.i64 ((↑k : Int) + 1) ∧ List.length L - (k + 1) < List.length L - k ∧ Tc_heldIntSLa L n (li ((↑k : Int) + 1)) (li (n + (↑k : Int) + 1)) = Lc_heldIntSLa L n
 (k + 1) ∧ Ic_heldIntSLa L n (List.length L - (k + 1)) (Lc_heldIntSLa L n (k + 1)))) ∧ (decide ((↑k : Int) < (↑(List.length (List.map intC L)) : Int)) = false → True ∧
 W0c_heldIntSLa L n (li (n + (↑k : Int))) = W0c_heldIntSLa L n (li (n + (↑(List.length L) : Int))))) := by kernel_rfl
theorem Sc_heldIntSLa (L : List Int) (n : Int) (h0 : 0 ≤ n) (h : n + (↑(List.length L) : Int) ≤ 2147483647) (hm : seqM mkI cOne L n = L)  : LoopSem Try.prog (loopAt Try.f32 0)
 (Ic_heldIntSLa L n) (Yc_heldIntSLa L n) := by
  refine LoopSem.ofHead wide fun k h => ⟨_, _, run_c_heldIntSLa L n k, ?_⟩
  with_reducible repeat' (first | apply And.intro | exact flatI | exact flatS | exact rowLens | (intro; skip) | apply obsN | apply obsC | apply obA | apply obM | apply obB | apply svA | apply tupA | apply lcA | apply lcS | apply svC | apply liC | apply lbC | apply lsC | apply vIc | apply vBc | apply vSc | apply vLc | apply mapC | apply Hc_heldIntSLa | apply Ec_heldIntSLa | apply EW0c_heldIntSLa | apply EW1c_heldIntSLa)
  all_goals (try simp only [std, stdM] at *)
  all_goals (try (first | with_reducible rfl | omega | assumption | (refine (decide_eq_true ?_).symm; assumption) | (refine (decide_eq_false ?_).symm; assumption) | (refine rowGet ?_; (first | omega | (simp only [std, stdM]; omega) | grind)) | (refine getC ?_ rfl; (first | omega | (simp only [std, stdM]; omega) | grind)) | (refine fill_step ?_ ?_; (first | omega | (simp only [std, stdM]; omega) | grind); (first | rfl | exact (Row.eq _).trans rfl)) | (refine fill_init ?_; (first | rfl | exact (Row.eq _).trans rfl)) | (refine set_row ?_; (simp only [List.length_map, List.length_set, mkTo_len]; omega)) | (refine mkToRow ?_; (first | omega | (simp only [std, stdM]; omega) | grind)) | (refine mkTo_row ?_ rfl; (first | omega | (simp only [std, stdM]; omega) | grind)) | (refine mkTo_step ?_ ?_; (first | omega | (simp only [std, stdM]; omega) | grind); (first | grind [seqI_get hm, snocI, snocS, rowSnoc])) | grind [seqI_get hm, snocI, snocS, rowSnoc]))
theorem run_c_heldIntS (L : List Int) (n : Int) : aexec Try.prog (Option.getD (Func.body Try.f32) Code.skip) (entry [] [ll (List.map intC L), li n] 21) [Orc.ghost (Ghost.sel [] [0,
 1, 5]), Orc.loop (List.length L - 0) (Lc_heldIntSLa L n 0) (Ic_heldIntSLa L n) [(True, AEx.exit 0, W0c_heldIntSLa L n (li (n + (↑(List.length L) : Int))), [Orc.fin []]), (False,
 AEx.ret, W1c_heldIntSLa L n (li (-1 : Int)), [Orc.fin []])]] (finK Try.prog [ResultVar.tmp 4] [] (AV.sv (li (n + (↑(List.length L) : Int))))) = (Tc_heldIntSLa L n (li 0) (li n) =
 Lc_heldIntSLa L n 0 ∧ Ic_heldIntSLa L n (List.length L - 0) (Lc_heldIntSLa L n 0) ∧ LoopSem Try.prog (loopAt Try.f32 0) (Ic_heldIntSLa L n) (Yc_heldIntSLa L n) ∧ (True → ObsEq []
 [] ∧ AV.sv (li (n + (↑(List.length L) : Int))) = AV.sv (li (n + (↑(List.length L) : Int)))) ∧ (False → ObsEq [] [] ∧ AV.sv (li (-1 : Int)) = AV.sv (li (n + (↑(List.length L) :
 Int)))) ∧ True) := by kernel_rfl
theorem c_heldIntS (L : List Int) (n : Int) (h0 : 0 ≤ n) (h : n + L.length ≤ 2147483647) (hm : seqM mkI cOne L n = L)  : P_c_heldIntS L n := by
  refine CallOK.ofRun wide (run_c_heldIntS L n) Try.call32 Try.func32 rfl rfl rfl ?_
  with_reducible repeat' (first | apply And.intro | exact flatI | exact flatS | exact rowLens | (intro; skip) | apply obsN | apply obsC | apply obA | apply obM | apply obB | apply svA | apply tupA | apply lcA | apply lcS | apply svC | apply liC | apply lbC | apply lsC | apply vIc | apply vBc | apply vSc | apply vLc | apply mapC | apply Hc_heldIntSLa | apply Ec_heldIntSLa | apply Sc_heldIntSLa | apply EW0c_heldIntSLa | apply EW1c_heldIntSLa)
  all_goals (try simp only [std, stdM] at *)
  all_goals (try (first | with_reducible rfl | omega | assumption | (refine (decide_eq_true ?_).symm; assumption) | (refine (decide_eq_false ?_).symm; assumption) | (refine rowGet ?_; (first | omega | (simp only [std, stdM]; omega) | grind)) | (refine getC ?_ rfl; (first | omega | (simp only [std, stdM]; omega) | grind)) | (refine fill_step ?_ ?_; (first | omega | (simp only [std, stdM]; omega) | grind); (first | rfl | exact (Row.eq _).trans rfl)) | (refine fill_init ?_; (first | rfl | exact (Row.eq _).trans rfl)) | (refine set_row ?_; (simp only [List.length_map, List.length_set, mkTo_len]; omega)) | (refine mkToRow ?_; (first | omega | (simp only [std, stdM]; omega) | grind)) | (refine mkTo_row ?_ rfl; (first | omega | (simp only [std, stdM]; omega) | grind)) | (refine mkTo_step ?_ ?_; (first | omega | (simp only [std, stdM]; omega) | grind); (first | grind [snocI, snocS, rowSnoc])) | grind [snocI, snocS, rowSnoc]))
abbrev P_c_heldSyntaxS (x : Syntax) (n : Int) : Prop := CallOK Try.prog 194 [] [ll (x.items.map syntaxC), li n] [] (.sv (li (n + sumBy cY x.items)))
def Tc_heldSyntaxS_sLa (x : Syntax) (n : Int) (x0 : SV) (x1 : SV) : St := St.mk (regsOf 59 [(0, AV.sv (ll (List.map syntaxC (Syntax.items x)))), (1, AV.sv x1), (5, AV.sv x0)]) [] 0
def Lc_heldSyntaxS_sLa (x : Syntax) (n : Int) (k : Nat) : St := Tc_heldSyntaxS_sLa x n (li (↑k : Int)) (li (n + (↑(sumBy cY (List.take k (Syntax.items x))) : Int))) 
def Ic_heldSyntaxS_sLa (x : Syntax) (n : Int) : Nat → St → Prop := Head (Lc_heldSyntaxS_sLa x n) (fun k => k ≤ List.length (Syntax.items x) ∧ List.length (Syntax.items x) ≤
 9223372036854775807) fun k => List.length (Syntax.items x) - k 
def W0c_heldSyntaxS_sLa (x : Syntax) (n : Int) (x0 : SV) : St := St.mk (regsOf 59 [(1, AV.sv x0)]) [] 0 
def W1c_heldSyntaxS_sLa (x : Syntax) (n : Int) (x0 : SV) : St := St.mk (regsOf 59 [(4, AV.sv x0)]) [] 0 
def Yc_heldSyntaxS_sLa (x : Syntax) (n : Int) : List (Prop × AEx × St) := [(True, AEx.exit 0, W0c_heldSyntaxS_sLa x n (li (n + (↑(sumBy cY (Syntax.items x)) : Int)))), (False,
 AEx.ret, W1c_heldSyntaxS_sLa x n (li (-1 : Int)))]
theorem Hc_heldSyntaxS_sLa {x : Syntax} {n : Int} {k : Nat} {m : Nat} (h : (fun k => k ≤ List.length (Syntax.items x) ∧ List.length (Syntax.items x) ≤ 9223372036854775807) k) (hm :
 (fun k => List.length (Syntax.items x) - k) k = m) : Ic_heldSyntaxS_sLa x n m (Lc_heldSyntaxS_sLa x n k) := hm ▸ Head.mk h
theorem Ec_heldSyntaxS_sLa {x : Syntax} {n : Int} {k : Nat} {x0 : SV} {x1 : SV} (h0 : x0 = (li (↑k : Int))) (h1 : x1 = (li (n + (↑(sumBy cY (List.take k (Syntax.items x))) :
 Int)))) : Tc_heldSyntaxS_sLa x n x0 x1 = Lc_heldSyntaxS_sLa x n k := by
  rw [h0, h1]
  rfl
theorem EW0c_heldSyntaxS_sLa {x : Syntax} {n : Int} {x0 y0 : SV} (h0 : x0 = y0) : W0c_heldSyntaxS_sLa x n x0 = W0c_heldSyntaxS_sLa x n y0 := by rw [h0]
theorem EW1c_heldSyntaxS_sLa {x : Syntax} {n : Int} {x0 y0 : SV} (h0 : x0 = y0) : W1c_heldSyntaxS_sLa x n x0 = W1c_heldSyntaxS_sLa x n y0 := by rw [h0]
abbrev a1__heldSyntaxS_sLa (x : Syntax) (k : Nat) := (↑(sumBy cY (List.take k (Syntax.items x))) : Int)
abbrev a2__heldSyntaxS_sLa (x : Syntax) (k : Nat) := (0 ≤ (↑k : Int) ∧ (List.map syntaxC (Syntax.items x))[Int.toNat (↑k : Int)]? = some (syntaxF (List.getD (Syntax.items x) k
 default)))
abbrev a3__heldSyntaxS_sLa (x : Syntax) (k : Nat) := (↑(List.length (Syntax.scopes (List.getD (Syntax.items x) k default))) : Int)
abbrev a4__heldSyntaxS_sLa (x : Syntax) (n : Int) (k : Nat) := (li (n + (a1__heldSyntaxS_sLa x k) + 1 + 1 + 1 + (a3__heldSyntaxS_sLa x k) + (↑(sumBy cY (Syntax.items (List.getD
 (Syntax.items x) k default))) : Int)))
theorem run_c_heldSyntaxS_sLa (x : Syntax) (n : Int) (k : Nat) : aexec Try.prog (loopAt Try.f194 0) (Lc_heldSyntaxS_sLa x n k) [Orc.br [Orc.cells (syntaxF (List.getD (Syntax.items
 x) k default)), Orc.br [Orc.ghost (Ghost.sel [] [4]), Orc.out 1] [Orc.cells (syntaxF (List.getD (Syntax.items x) k default)), Orc.br [Orc.ghost (Ghost.sel [] [4]), Orc.out 1]
 [Orc.draw [], Orc.cells (syntaxF (List.getD (Syntax.items x) k default)), Orc.call [Mode.rd] [] (AV.sv (ls (mText (n + (a1__heldSyntaxS_sLa x k) + 1 + 1)))), Orc.br [Orc.ghost
 (Ghost.sel [] [4]), Orc.out 1] [Orc.cells (syntaxF (List.getD (Syntax.items x) k default)), Orc.call [Mode.rd, Mode.rd] [] (AV.sv (li (n + (a1__heldSyntaxS_sLa x k) + 1 + 1 + 1 +
 (a3__heldSyntaxS_sLa x k)))), Orc.br [Orc.ghost (Ghost.sel [] [4]), Orc.out 1] [Orc.cells (syntaxF (List.getD (Syntax.items x) k default)), Orc.call [Mode.rd, Mode.rd] [] (AV.sv
 (a4__heldSyntaxS_sLa x n k)), Orc.br [Orc.ghost (Ghost.sel [] [4]), Orc.out 1] [Orc.ghost (Ghost.sel [] [0, 1, 5]), Orc.goto (List.length (Syntax.items x) - (k + 1))
 (Lc_heldSyntaxS_sLa x n (k + 1))]]]]]] [Orc.ghost (Ghost.sel [] [1]), Orc.out 0]] (loopK (Ic_heldSyntaxS_sLa x n) (Yc_heldSyntaxS_sLa x n) (List.length (Syntax.items x) - k)) =
 (List.length (List.map syntaxC (Syntax.items x)) ≤ 9223372036854775807 → (decide ((↑k : Int) < (↑(List.length (List.map syntaxC (Syntax.items x))) : Int)) = true →
 (a2__heldSyntaxS_sLa x k) ∧ (decide (Syntax.kind (List.getD (Syntax.items x) k default) ≠ n + (a1__heldSyntaxS_sLa x k)) = true → False ∧ W1c_heldSyntaxS_sLa x n (li (-1 : Int)) =
 W1c_heldSyntaxS_sLa x n (li (-1 : Int))) ∧ (decide (Syntax.kind (List.getD (Syntax.items x) k default) ≠ n + (a1__heldSyntaxS_sLa x k)) = false → rng IntKind.i64 (n +
 (a1__heldSyntaxS_sLa x k) + 1) ∧ (a2__heldSyntaxS_sLa x k) ∧ (decide (Syntax.number (List.getD (Syntax.items x) k default) ≠ n + (a1__heldSyntaxS_sLa x k) + 1) = true → False ∧
 W1c_heldSyntaxS_sLa x n (li (-1 : Int)) = W1c_heldSyntaxS_sLa x n (li (-1 : Int))) ∧ (decide (Syntax.number (List.getD (Syntax.items x) k default) ≠ n + (a1__heldSyntaxS_sLa x k)
 + 1) = false → rng IntKind.i64 (n + (a1__heldSyntaxS_sLa x k) + 1 + 1) ∧ (a2__heldSyntaxS_sLa x k) ∧ P_c_markText (n + (a1__heldSyntaxS_sLa x k) + 1 + 1) ∧ (decide (Array.toList
 (ByteArray.data (Syntax.text (List.getD (Syntax.items x) k default))) ≠ Array.toList (ByteArray.data (mText (n + (a1__heldSyntaxS_sLa x k) + 1 + 1)))) = true → False ∧
 W1c_heldSyntaxS_sLa x n (li (-1 : Int)) = W1c_heldSyntaxS_sLa x n (li (-1 : Int))) ∧ (decide (Array.toList (ByteArray.data (Syntax.text (List.getD (Syntax.items x) k default))) ≠
 Array.toList (ByteArray.data (mText (n + (a1__heldSyntaxS_sLa x k) + 1 + 1)))) = false → rng IntKind.i64 (n + (a1__heldSyntaxS_sLa x k) + 1 + 1 + 1) ∧ (a2__heldSyntaxS_sLa x k) ∧
 P_c_heldIntS (Syntax.scopes (List.getD (Syntax.items x) k default)) (n + (a1__heldSyntaxS_sLa x k) + 1 + 1 + 1) ∧ (decide (n + (a1__heldSyntaxS_sLa x k) + 1 + 1 + 1 +
 (a3__heldSyntaxS_sLa x k) < 0) = true → False ∧ W1c_heldSyntaxS_sLa x n (li (-1 : Int)) = W1c_heldSyntaxS_sLa x n (li (-1 : Int))) ∧ (decide (n + (a1__heldSyntaxS_sLa x k) + 1 + 1
 + 1 + (a3__heldSyntaxS_sLa x k) < 0) = false → (a2__heldSyntaxS_sLa x k) ∧ CallOK Try.prog 194 [] [ll (List.map syntaxC (Syntax.items (List.getD (Syntax.items x) k default))), li
 (n + (a1__heldSyntaxS_sLa x k) + 1 + 1 + 1 + (a3__heldSyntaxS_sLa x k))] [] (AV.sv (a4__heldSyntaxS_sLa x n k)) ∧ (decide (n + (a1__heldSyntaxS_sLa x k) + 1 + 1 + 1 +
 (a3__heldSyntaxS_sLa x k) + (↑(sumBy cY (Syntax.items (List.getD (Syntax.items x) k default))) : Int) < 0) = true → False ∧ W1c_heldSyntaxS_sLa x n (li (-1 : Int)) =
 W1c_heldSyntaxS_sLa x n (li (-1 : Int))) ∧ (decide (n + (a1__heldSyntaxS_sLa x k) + 1 + 1 + 1 + (a3__heldSyntaxS_sLa x k) + (↑(sumBy cY (Syntax.items (List.getD (Syntax.items x) k
 default))) : Int) < 0) = false → rng IntKind.i64 ((↑k : Int) + 1) ∧ List.length (Syntax.items x) - (k + 1) < List.length (Syntax.items x) - k ∧ Tc_heldSyntaxS_sLa x n (li ((↑k :
 Int) + 1)) (a4__heldSyntaxS_sLa x n k) = Lc_heldSyntaxS_sLa x n (k + 1) ∧ Ic_heldSyntaxS_sLa x n (List.length (Syntax.items x) - (k + 1)) (Lc_heldSyntaxS_sLa x n (k + 1)))))))) ∧
 (decide ((↑k : Int) < (↑(List.length (List.map syntaxC (Syntax.items x))) : Int)) = false → True ∧ W0c_heldSyntaxS_sLa x n (li (n + (a1__heldSyntaxS_sLa x k))) =
 W0c_heldSyntaxS_sLa x n (li (n + (↑(sumBy cY (Syntax.items x)) : Int))))) := by kernel_rfl
theorem Sc_heldSyntaxS_sLa (x : Syntax) (n : Int) (h0 : 0 ≤ n) (h : n + (↑(sumBy cY (Syntax.items x)) : Int) ≤ 2147483647) (hm : seqM mkY cY (Syntax.items x) n = Syntax.items x)
 (ih : ∀ (z : Syntax), z ∈ Syntax.items x → ∀ (n : Int), 0 ≤ n → n + (↑(sumBy cY (Syntax.items z)) : Int) ≤ 2147483647 → seqM mkY cY (Syntax.items z) n = Syntax.items z →
 P_c_heldSyntaxS z n)  : LoopSem Try.prog (loopAt Try.f194 0) (Ic_heldSyntaxS_sLa x n) (Yc_heldSyntaxS_sLa x n) := by
  refine LoopSem.ofHead wide fun k h => ⟨_, _, run_c_heldSyntaxS_sLa x n k, ?_⟩
  try delta a1__heldSyntaxS_sLa a2__heldSyntaxS_sLa a3__heldSyntaxS_sLa a4__heldSyntaxS_sLa
  have g0 := sumBy_takeLe cY x.items (k + 1)
  have g1 := fun hk : k < x.items.length => mkY_fix (seqM_get hm hk)
  with_reducible repeat' (first | apply And.intro | exact flatI | exact flatS | exact rowLens | exact ih | (intro; skip) | apply obsN | apply obsC | apply obA | apply obM | apply obB | apply svA | apply tupA | apply lcA | apply lcS | apply svC | apply liC | apply lbC | apply lsC | apply vIc | apply vBc | apply vSc | apply vLc | apply mapC | apply Hc_heldSyntaxS_sLa | apply Ec_heldSyntaxS_sLa | apply EW0c_heldSyntaxS_sLa | apply EW1c_heldSyntaxS_sLa | apply c_markText | apply c_heldIntS | apply ih)
  all_goals (try simp only [std, stdM] at *)
  all_goals (try (first | with_reducible rfl | omega | assumption | (refine (decide_eq_true ?_).symm; assumption) | (refine (decide_eq_false ?_).symm; assumption) | (refine rowGet ?_; (first | omega | (simp only [std, stdM]; omega) | grind)) | (refine getC ?_ rfl; (first | omega | (simp only [std, stdM]; omega) | grind)) | (refine fill_step ?_ ?_; (first | omega | (simp only [std, stdM]; omega) | grind); (first | rfl | exact (Row.eq _).trans rfl)) | (refine fill_init ?_; (first | rfl | exact (Row.eq _).trans rfl)) | (refine set_row ?_; (simp only [List.length_map, List.length_set, mkTo_len]; omega)) | (refine mkToRow ?_; (first | omega | (simp only [std, stdM]; omega) | grind)) | (refine mkTo_row ?_ rfl; (first | omega | (simp only [std, stdM]; omega) | grind)) | (refine mkTo_step ?_ ?_; (first | omega | (simp only [std, stdM]; omega) | grind); (first | grind [sumBy_step, getD_mem', cY_eq, snocI, snocS, rowSnoc])) | grind [sumBy_step, getD_mem', cY_eq, snocI, snocS, rowSnoc]))
theorem run_c_heldSyntaxS_s (x : Syntax) (n : Int) : aexec Try.prog (Option.getD (Func.body Try.f194) Code.skip) (entry [] [ll (List.map syntaxC (Syntax.items x)), li n] 59)
 [Orc.ghost (Ghost.sel [] [0, 1, 5]), Orc.loop (List.length (Syntax.items x) - 0) (Lc_heldSyntaxS_sLa x n 0) (Ic_heldSyntaxS_sLa x n) [(True, AEx.exit 0, W0c_heldSyntaxS_sLa x n
 (li (n + (↑(sumBy cY (Syntax.items x)) : Int))), [Orc.fin []]), (False, AEx.ret, W1c_heldSyntaxS_sLa x n (li (-1 : Int)), [Orc.fin []])]] (finK Try.prog [ResultVar.tmp 4] []
 (AV.sv (li (n + (↑(sumBy cY (Syntax.items x)) : Int))))) = (Tc_heldSyntaxS_sLa x n (li 0) (li n) = Lc_heldSyntaxS_sLa x n 0 ∧ Ic_heldSyntaxS_sLa x n (List.length (Syntax.items x)
 - 0) (Lc_heldSyntaxS_sLa x n 0) ∧ LoopSem Try.prog (loopAt Try.f194 0) (Ic_heldSyntaxS_sLa x n) (Yc_heldSyntaxS_sLa x n) ∧ (True → ObsEq [] [] ∧ AV.sv (li (n + (↑(sumBy cY
 (Syntax.items x)) : Int))) = AV.sv (li (n + (↑(sumBy cY (Syntax.items x)) : Int)))) ∧ (False → ObsEq [] [] ∧ AV.sv (li (-1 : Int)) = AV.sv (li (n + (↑(sumBy cY (Syntax.items x)) :
 Int)))) ∧ True) := by kernel_rfl
theorem c_heldSyntaxS_s (x : Syntax) (n : Int) (h0 : 0 ≤ n) (h : n + sumBy cY x.items ≤ 2147483647) (hm : seqM mkY cY x.items n = x.items) (ih : ∀ z ∈ x.items, ∀ (n : Int) (h0 : 0
 ≤ n) (h : n + sumBy cY z.items ≤ 2147483647) (hm : seqM mkY cY z.items n = z.items), P_c_heldSyntaxS z n)  : P_c_heldSyntaxS x n := by
  refine CallOK.ofRun wide (run_c_heldSyntaxS_s x n) Try.call194 Try.func194 rfl rfl rfl ?_
  have gl := cY_len x.items
  with_reducible repeat' (first | apply And.intro | exact flatI | exact flatS | exact rowLens | exact ih | (intro; skip) | apply obsN | apply obsC | apply obA | apply obM | apply obB | apply svA | apply tupA | apply lcA | apply lcS | apply svC | apply liC | apply lbC | apply lsC | apply vIc | apply vBc | apply vSc | apply vLc | apply mapC | apply Hc_heldSyntaxS_sLa | apply Ec_heldSyntaxS_sLa | apply Sc_heldSyntaxS_sLa | apply EW0c_heldSyntaxS_sLa | apply EW1c_heldSyntaxS_sLa | apply c_markText | apply c_heldIntS)
  all_goals (try simp only [std, stdM] at *)
  all_goals (try (first | with_reducible rfl | omega | assumption | (refine (decide_eq_true ?_).symm; assumption) | (refine (decide_eq_false ?_).symm; assumption) | (refine rowGet ?_; (first | omega | (simp only [std, stdM]; omega) | grind)) | (refine getC ?_ rfl; (first | omega | (simp only [std, stdM]; omega) | grind)) | (refine fill_step ?_ ?_; (first | omega | (simp only [std, stdM]; omega) | grind); (first | rfl | exact (Row.eq _).trans rfl)) | (refine fill_init ?_; (first | rfl | exact (Row.eq _).trans rfl)) | (refine set_row ?_; (simp only [List.length_map, List.length_set, mkTo_len]; omega)) | (refine mkToRow ?_; (first | omega | (simp only [std, stdM]; omega) | grind)) | (refine mkTo_row ?_ rfl; (first | omega | (simp only [std, stdM]; omega) | grind)) | (refine mkTo_step ?_ ?_; (first | omega | (simp only [std, stdM]; omega) | grind); (first | grind [mkTo_all, snocI, snocS, rowSnoc])) | grind [mkTo_all, snocI, snocS, rowSnoc]))
theorem c_heldSyntaxS (x : Syntax) : ∀ (n : Int) (h0 : 0 ≤ n) (h : n + sumBy cY x.items ≤ 2147483647) (hm : seqM mkY cY x.items n = x.items), P_c_heldSyntaxS x n := Syntax.ind (P := fun x => ∀ (n : Int) (h0 : 0 ≤ n) (h : n + sumBy cY x.items ≤ 2147483647) (hm : seqM mkY cY x.items n = x.items), P_c_heldSyntaxS x n) (fun x ih n h0 h hm => c_heldSyntaxS_s x n h0 h hm ih) x
theorem c_heldSyntaxSL (L : List Syntax) (n : Int) (h0 : 0 ≤ n) (h : n + sumBy cY L ≤ 2147483647) (hm : seqM mkY cY L n = L) : P_c_heldSyntaxS { (default : Syntax) with items := L } n := c_heldSyntaxS { (default : Syntax) with items := L } n h0 h hm
abbrev P_c_heldCaptureS (x : Capture) (n : Int) : Prop := CallOK Try.prog 92 [] [ll (x.each.map captureC), li n] [] (.sv (li (n + sumBy cP x.each)))
def Tc_heldCaptureS_sLa (x : Capture) (n : Int) (x0 : SV) (x1 : SV) : St := St.mk (regsOf 133 [(0, AV.sv (ll (List.map captureC (Capture.each x)))), (1, AV.sv x1), (5, AV.sv x0)])
 [] 0 
def Lc_heldCaptureS_sLa (x : Capture) (n : Int) (k : Nat) : St := Tc_heldCaptureS_sLa x n (li (↑k : Int)) (li (n + (↑(sumBy cP (List.take k (Capture.each x))) : Int))) 
def Ic_heldCaptureS_sLa (x : Capture) (n : Int) : Nat → St → Prop := Head (Lc_heldCaptureS_sLa x n) (fun k => k ≤ List.length (Capture.each x) ∧ List.length (Capture.each x) ≤
 9223372036854775807) fun k => List.length (Capture.each x) - k 
def W0c_heldCaptureS_sLa (x : Capture) (n : Int) (x0 : SV) : St := St.mk (regsOf 133 [(1, AV.sv x0)]) [] 0 
def W1c_heldCaptureS_sLa (x : Capture) (n : Int) (x0 : SV) : St := St.mk (regsOf 133 [(4, AV.sv x0)]) [] 0 
def Yc_heldCaptureS_sLa (x : Capture) (n : Int) : List (Prop × AEx × St) := [(True, AEx.exit 0, W0c_heldCaptureS_sLa x n (li (n + (↑(sumBy cP (Capture.each x)) : Int)))), (False,
 AEx.ret, W1c_heldCaptureS_sLa x n (li (-1 : Int)))]
theorem Hc_heldCaptureS_sLa {x : Capture} {n : Int} {k : Nat} {m : Nat} (h : (fun k => k ≤ List.length (Capture.each x) ∧ List.length (Capture.each x) ≤ 9223372036854775807) k) (hm
 : (fun k => List.length (Capture.each x) - k) k = m) : Ic_heldCaptureS_sLa x n m (Lc_heldCaptureS_sLa x n k) := hm ▸ Head.mk h
theorem Ec_heldCaptureS_sLa {x : Capture} {n : Int} {k : Nat} {x0 : SV} {x1 : SV} (h0 : x0 = (li (↑k : Int))) (h1 : x1 = (li (n + (↑(sumBy cP (List.take k (Capture.each x))) :
 Int)))) : Tc_heldCaptureS_sLa x n x0 x1 = Lc_heldCaptureS_sLa x n k := by
  rw [h0, h1]
  rfl
theorem EW0c_heldCaptureS_sLa {x : Capture} {n : Int} {x0 y0 : SV} (h0 : x0 = y0) : W0c_heldCaptureS_sLa x n x0 = W0c_heldCaptureS_sLa x n y0 := by rw [h0]
theorem EW1c_heldCaptureS_sLa {x : Capture} {n : Int} {x0 y0 : SV} (h0 : x0 = y0) : W1c_heldCaptureS_sLa x n x0 = W1c_heldCaptureS_sLa x n y0 := by rw [h0]
abbrev a1__heldCaptureS_sLa (x : Capture) (k : Nat) := (Capture.name (List.getD (Capture.each x) k default))
abbrev a2__heldCaptureS_sLa (x : Capture) (k : Nat) := (↑(List.length (Syntax.scopes (a1__heldCaptureS_sLa x k))) : Int)
abbrev a3__heldCaptureS_sLa (x : Capture) (k : Nat) := (↑(sumBy cP (List.take k (Capture.each x))) : Int)
abbrev a4__heldCaptureS_sLa (x : Capture) (k : Nat) := (↑(sumBy cY (Syntax.items (a1__heldCaptureS_sLa x k))) : Int)
abbrev a12__heldCaptureS_sLa (x : Capture) (k : Nat) := (captureF (List.getD (Capture.each x) k default))
abbrev a5__heldCaptureS_sLa (x : Capture) (k : Nat) := (0 ≤ (↑k : Int) ∧ (List.map captureC (Capture.each x))[Int.toNat (↑k : Int)]? = some (a12__heldCaptureS_sLa x k))
abbrev a6__heldCaptureS_sLa (x : Capture) (k : Nat) := (Capture.form (List.getD (Capture.each x) k default))
abbrev a11__heldCaptureS_sLa (x : Capture) (k : Nat) := (↑(List.length (Syntax.scopes (a6__heldCaptureS_sLa x k))) : Int)
abbrev a7__heldCaptureS_sLa (x : Capture) (n : Int) (k : Nat) := (li (n + (a3__heldCaptureS_sLa x k) + 1 + 1 + 1 + (a2__heldCaptureS_sLa x k) + (a4__heldCaptureS_sLa x k) + 1 + 1 +
 1 + 1 + (a11__heldCaptureS_sLa x k) + (↑(sumBy cY (Syntax.items (a6__heldCaptureS_sLa x k))) : Int) + (↑(sumBy cP (Capture.each (List.getD (Capture.each x) k default))) : Int)))
abbrev a8__heldCaptureS_sLa (x : Capture) (n : Int) (k : Nat) := (n + (a3__heldCaptureS_sLa x k) + 1 + 1 + 1 + (a2__heldCaptureS_sLa x k) + (a4__heldCaptureS_sLa x k) + 1 + 1 + 1)
abbrev a9__heldCaptureS_sLa (x : Capture) (n : Int) (k : Nat) := (n + (a3__heldCaptureS_sLa x k) + 1 + 1 + 1 + (a2__heldCaptureS_sLa x k) + (a4__heldCaptureS_sLa x k) + 1 + 1 + 1 +
 1 + (a11__heldCaptureS_sLa x k) + (↑(sumBy cY (Syntax.items (a6__heldCaptureS_sLa x k))) : Int))
abbrev a10__heldCaptureS_sLa  := [Orc.ghost (Ghost.sel [] [4]), Orc.out 1]
abbrev a13__heldCaptureS_sLa (x : Capture) (n : Int) (k : Nat) := (n + (a3__heldCaptureS_sLa x k) + 1 + 1 + 1 + (a2__heldCaptureS_sLa x k) + (a4__heldCaptureS_sLa x k) + 1 + 1 + 1
 + 1 + (a11__heldCaptureS_sLa x k) + (↑(sumBy cY (Syntax.items (a6__heldCaptureS_sLa x k))) : Int) + (↑(sumBy cP (Capture.each (List.getD (Capture.each x) k default))) : Int) < 0)
abbrev a14__heldCaptureS_sLa (x : Capture) (n : Int) (k : Nat) := (n + (a3__heldCaptureS_sLa x k) + 1 + 1 + 1 + (a2__heldCaptureS_sLa x k) + (a4__heldCaptureS_sLa x k) + 1 + 1 + 1
 + 1 + (a11__heldCaptureS_sLa x k) + (↑(sumBy cY (Syntax.items (a6__heldCaptureS_sLa x k))) : Int) < 0)
theorem run_c_heldCaptureS_sLa (x : Capture) (n : Int) (k : Nat) : aexec Try.prog (loopAt Try.f92 0) (Lc_heldCaptureS_sLa x n k) [Orc.br [Orc.cells (a12__heldCaptureS_sLa x k),
 Orc.br a10__heldCaptureS_sLa [Orc.cells (a12__heldCaptureS_sLa x k), Orc.br a10__heldCaptureS_sLa [Orc.draw [], Orc.cells (a12__heldCaptureS_sLa x k), Orc.call [Mode.rd] [] (AV.sv
 (ls (mText (n + (a3__heldCaptureS_sLa x k) + 1 + 1)))), Orc.br a10__heldCaptureS_sLa [Orc.cells (a12__heldCaptureS_sLa x k), Orc.call [Mode.rd, Mode.rd] [] (AV.sv (li (n +
 (a3__heldCaptureS_sLa x k) + 1 + 1 + 1 + (a2__heldCaptureS_sLa x k)))), Orc.br a10__heldCaptureS_sLa [Orc.cells (a12__heldCaptureS_sLa x k), Orc.call [Mode.rd, Mode.rd] [] (AV.sv
 (li (n + (a3__heldCaptureS_sLa x k) + 1 + 1 + 1 + (a2__heldCaptureS_sLa x k) + (a4__heldCaptureS_sLa x k)))), Orc.br a10__heldCaptureS_sLa [Orc.cells (a12__heldCaptureS_sLa x k),
 Orc.br a10__heldCaptureS_sLa [Orc.cells (a12__heldCaptureS_sLa x k), Orc.br a10__heldCaptureS_sLa [Orc.cells (a12__heldCaptureS_sLa x k), Orc.br a10__heldCaptureS_sLa [Orc.draw
 [], Orc.cells (a12__heldCaptureS_sLa x k), Orc.call [Mode.rd] [] (AV.sv (ls (mText (a8__heldCaptureS_sLa x n k)))), Orc.br a10__heldCaptureS_sLa [Orc.cells (a12__heldCaptureS_sLa
 x k), Orc.call [Mode.rd, Mode.rd] [] (AV.sv (li (n + (a3__heldCaptureS_sLa x k) + 1 + 1 + 1 + (a2__heldCaptureS_sLa x k) + (a4__heldCaptureS_sLa x k) + 1 + 1 + 1 + 1 +
 (a11__heldCaptureS_sLa x k)))), Orc.br a10__heldCaptureS_sLa [Orc.cells (a12__heldCaptureS_sLa x k), Orc.call [Mode.rd, Mode.rd] [] (AV.sv (li (a9__heldCaptureS_sLa x n k))),
 Orc.br a10__heldCaptureS_sLa [Orc.cells (a12__heldCaptureS_sLa x k), Orc.call [Mode.rd, Mode.rd] [] (AV.sv (a7__heldCaptureS_sLa x n k)), Orc.br a10__heldCaptureS_sLa [Orc.ghost
 (Ghost.sel [] [0, 1, 5]), Orc.goto (List.length (Capture.each x) - (k + 1)) (Lc_heldCaptureS_sLa x n (k + 1))]]]]]]]]]]]]] [Orc.ghost (Ghost.sel [] [1]), Orc.out 0]] (loopK
 (Ic_heldCaptureS_sLa x n) (Yc_heldCaptureS_sLa x n) (List.length (Capture.each x) - k)) = (List.length (List.map captureC (Capture.each x)) ≤ 9223372036854775807 → (decide ((↑k :
 Int) < (↑(List.length (List.map captureC (Capture.each x))) : Int)) = true → (a5__heldCaptureS_sLa x k) ∧ (decide (Syntax.kind (a1__heldCaptureS_sLa x k) ≠ n +
 (a3__heldCaptureS_sLa x k)) = true → False ∧ W1c_heldCaptureS_sLa x n (li (-1 : Int)) = W1c_heldCaptureS_sLa x n (li (-1 : Int))) ∧ (decide (Syntax.kind (a1__heldCaptureS_sLa x k)
 ≠ n + (a3__heldCaptureS_sLa x k)) = false → rng IntKind.i64 (n + (a3__heldCaptureS_sLa x k) + 1) ∧ (a5__heldCaptureS_sLa x k) ∧ (decide (Syntax.number (a1__heldCaptureS_sLa x k) ≠
 n + (a3__heldCaptureS_sLa x k) + 1) = true → False ∧ W1c_heldCaptureS_sLa x n (li (-1 : Int)) = W1c_heldCaptureS_sLa x n (li (-1 : Int))) ∧ (decide (Syntax.number
 (a1__heldCaptureS_sLa x k) ≠ n + (a3__heldCaptureS_sLa x k) + 1) = false → rng IntKind.i64 (n + (a3__heldCaptureS_sLa x k) + 1 + 1) ∧ (a5__heldCaptureS_sLa x k) ∧ P_c_markText (n
 + (a3__heldCaptureS_sLa x k) + 1 + 1) ∧ (decide (Array.toList (ByteArray.data (Syntax.text (a1__heldCaptureS_sLa x k))) ≠ Array.toList (ByteArray.data (mText (n +
 (a3__heldCaptureS_sLa x k) + 1 + 1)))) = true → False ∧ W1c_heldCaptureS_sLa x n (li (-1 : Int)) = W1c_heldCaptureS_sLa x n (li (-1 : Int))) ∧ (decide (Array.toList
 (ByteArray.data (Syntax.text (a1__heldCaptureS_sLa x k))) ≠ Array.toList (ByteArray.data (mText (n + (a3__heldCaptureS_sLa x k) + 1 + 1)))) = false → rng IntKind.i64 (n +
 (a3__heldCaptureS_sLa x k) + 1 + 1 + 1) ∧ (a5__heldCaptureS_sLa x k) ∧ P_c_heldIntS (Syntax.scopes (a1__heldCaptureS_sLa x k)) (n + (a3__heldCaptureS_sLa x k) + 1 + 1 + 1) ∧
 (decide (n + (a3__heldCaptureS_sLa x k) + 1 + 1 + 1 + (a2__heldCaptureS_sLa x k) < 0) = true → False ∧ W1c_heldCaptureS_sLa x n (li (-1 : Int)) = W1c_heldCaptureS_sLa x n (li (-1
 : Int))) ∧ (decide (n + (a3__heldCaptureS_sLa x k) + 1 + 1 + 1 + (a2__heldCaptureS_sLa x k) < 0) = false → (a5__heldCaptureS_sLa x k) ∧ CallOK Try.prog 194 [] [ll (List.map
 syntaxC (Syntax.items (a1__heldCaptureS_sLa x k))), li (n + (a3__heldCaptureS_sLa x k) + 1 + 1 + 1 + (a2__heldCaptureS_sLa x k))] [] (AV.sv (li (n + (a3__heldCaptureS_sLa x k) + 1
 + 1 + 1 + (a2__heldCaptureS_sLa x k) + (a4__heldCaptureS_sLa x k)))) ∧ (decide (n + (a3__heldCaptureS_sLa x k) + 1 + 1 + 1 + (a2__heldCaptureS_sLa x k) + (a4__heldCaptureS_sLa x
 k) < 0) = true → False ∧ W1c_heldCaptureS_sLa x n (li (-1 : Int)) = W1c_heldCaptureS_sLa x n (li (-1 : Int))) ∧ (decide (n + (a3__heldCaptureS_sLa x k) + 1 + 1 + 1 +
 (a2__heldCaptureS_sLa x k) + (a4__heldCaptureS_sLa x k) < 0) = false → (a5__heldCaptureS_sLa x k) ∧ (decide (Capture.depth (List.getD (Capture.each x) k default) ≠ n +
 (a3__heldCaptureS_sLa x k) + 1 + 1 + 1 + (a2__heldCaptureS_sLa x k) + (a4__heldCaptureS_sLa x k)) = true → False ∧ W1c_heldCaptureS_sLa x n (li (-1 : Int)) = W1c_heldCaptureS_sLa
 x n (li (-1 : Int))) ∧ (decide (Capture.depth (List.getD (Capture.each x) k default) ≠ n + (a3__heldCaptureS_sLa x k) + 1 + 1 + 1 + (a2__heldCaptureS_sLa x k) +
 (a4__heldCaptureS_sLa x k)) = false → rng IntKind.i64 (n + (a3__heldCaptureS_sLa x k) + 1 + 1 + 1 + (a2__heldCaptureS_sLa x k) + (a4__heldCaptureS_sLa x k) + 1) ∧
 (a5__heldCaptureS_sLa x k) ∧ (decide (Syntax.kind (a6__heldCaptureS_sLa x k) ≠ n + (a3__heldCaptureS_sLa x k) + 1 + 1 + 1 + (a2__heldCaptureS_sLa x k) + (a4__heldCaptureS_sLa x k)
 + 1) = true → False ∧ W1c_heldCaptureS_sLa x n (li (-1 : Int)) = W1c_heldCaptureS_sLa x n (li (-1 : Int))) ∧ (decide (Syntax.kind (a6__heldCaptureS_sLa x k) ≠ n +
 (a3__heldCaptureS_sLa x k) + 1 + 1 + 1 + (a2__heldCaptureS_sLa x k) + (a4__heldCaptureS_sLa x k) + 1) = false → rng IntKind.i64 (n + (a3__heldCaptureS_sLa x k) + 1 + 1 + 1 +
 (a2__heldCaptureS_sLa x k) + (a4__heldCaptureS_sLa x k) + 1 + 1) ∧ (a5__heldCaptureS_sLa x k) ∧ (decide (Syntax.number (a6__heldCaptureS_sLa x k) ≠ n + (a3__heldCaptureS_sLa x k)
 + 1 + 1 + 1 + (a2__heldCaptureS_sLa x k) + (a4__heldCaptureS_sLa x k) + 1 + 1) = true → False ∧ W1c_heldCaptureS_sLa x n (li (-1 : Int)) = W1c_heldCaptureS_sLa x n (li (-1 :
 Int))) ∧ (decide (Syntax.number (a6__heldCaptureS_sLa x k) ≠ n + (a3__heldCaptureS_sLa x k) + 1 + 1 + 1 + (a2__heldCaptureS_sLa x k) + (a4__heldCaptureS_sLa x k) + 1 + 1) = false
 → rng IntKind.i64 (a8__heldCaptureS_sLa x n k) ∧ (a5__heldCaptureS_sLa x k) ∧ P_c_markText (a8__heldCaptureS_sLa x n k) ∧ (decide (Array.toList (ByteArray.data (Syntax.text
 (a6__heldCaptureS_sLa x k))) ≠ Array.toList (ByteArray.data (mText (a8__heldCaptureS_sLa x n k)))) = true → False ∧ W1c_heldCaptureS_sLa x n (li (-1 : Int)) = W1c_heldCaptureS_sLa
 x n (li (-1 : Int))) ∧ (decide (Array.toList (ByteArray.data (Syntax.text (a6__heldCaptureS_sLa x k))) ≠ Array.toList (ByteArray.data (mText (a8__heldCaptureS_sLa x n k)))) =
 false → rng IntKind.i64 (n + (a3__heldCaptureS_sLa x k) + 1 + 1 + 1 + (a2__heldCaptureS_sLa x k) + (a4__heldCaptureS_sLa x k) + 1 + 1 + 1 + 1) ∧ (a5__heldCaptureS_sLa x k) ∧
 P_c_heldIntS (Syntax.scopes (a6__heldCaptureS_sLa x k)) (n + (a3__heldCaptureS_sLa x k) + 1 + 1 + 1 + (a2__heldCaptureS_sLa x k) + (a4__heldCaptureS_sLa x k) + 1 + 1 + 1 + 1) ∧
 (decide (n + (a3__heldCaptureS_sLa x k) + 1 + 1 + 1 + (a2__heldCaptureS_sLa x k) + (a4__heldCaptureS_sLa x k) + 1 + 1 + 1 + 1 + (a11__heldCaptureS_sLa x k) < 0) = true → False ∧
 W1c_heldCaptureS_sLa x n (li (-1 : Int)) = W1c_heldCaptureS_sLa x n (li (-1 : Int))) ∧ (decide (n + (a3__heldCaptureS_sLa x k) + 1 + 1 + 1 + (a2__heldCaptureS_sLa x k) +
 (a4__heldCaptureS_sLa x k) + 1 + 1 + 1 + 1 + (a11__heldCaptureS_sLa x k) < 0) = false → (a5__heldCaptureS_sLa x k) ∧ CallOK Try.prog 194 [] [ll (List.map syntaxC (Syntax.items
 (a6__heldCaptureS_sLa x k))), li (n + (a3__heldCaptureS_sLa x k) + 1 + 1 + 1 + (a2__heldCaptureS_sLa x k) + (a4__heldCaptureS_sLa x k) + 1 + 1 + 1 + 1 + (a11__heldCaptureS_sLa x
 k))] [] (AV.sv (li (a9__heldCaptureS_sLa x n k))) ∧ (decide (a14__heldCaptureS_sLa x n k) = true → False ∧ W1c_heldCaptureS_sLa x n (li (-1 : Int)) = W1c_heldCaptureS_sLa x n (li
 (-1 : Int))) ∧ (decide (a14__heldCaptureS_sLa x n k) = false → (a5__heldCaptureS_sLa x k) ∧ CallOK Try.prog 92 [] [ll (List.map captureC (Capture.each (List.getD (Capture.each x)
 k default))), li (a9__heldCaptureS_sLa x n k)] [] (AV.sv (a7__heldCaptureS_sLa x n k)) ∧ (decide (a13__heldCaptureS_sLa x n k) = true → False ∧ W1c_heldCaptureS_sLa x n (li (-1 :
 Int)) = W1c_heldCaptureS_sLa x n (li (-1 : Int))) ∧ (decide (a13__heldCaptureS_sLa x n k) = false → rng IntKind.i64 ((↑k : Int) + 1) ∧ List.length (Capture.each x) - (k + 1) <
 List.length (Capture.each x) - k ∧ Tc_heldCaptureS_sLa x n (li ((↑k : Int) + 1)) (a7__heldCaptureS_sLa x n k) = Lc_heldCaptureS_sLa x n (k + 1) ∧ Ic_heldCaptureS_sLa x n
 (List.length (Capture.each x) - (k + 1)) (Lc_heldCaptureS_sLa x n (k + 1))))))))))))))) ∧ (decide ((↑k : Int) < (↑(List.length (List.map captureC (Capture.each x))) : Int)) =
 false → True ∧ W0c_heldCaptureS_sLa x n (li (n + (a3__heldCaptureS_sLa x k))) = W0c_heldCaptureS_sLa x n (li (n + (↑(sumBy cP (Capture.each x)) : Int))))) := by kernel_rfl
theorem Sc_heldCaptureS_sLa (x : Capture) (n : Int) (h0 : 0 ≤ n) (h : n + (↑(sumBy cP (Capture.each x)) : Int) ≤ 2147483647) (hm : seqM mkP cP (Capture.each x) n = Capture.each x)
 (ih : ∀ (z : Capture), z ∈ Capture.each x → ∀ (n : Int), 0 ≤ n → n + (↑(sumBy cP (Capture.each z)) : Int) ≤ 2147483647 → seqM mkP cP (Capture.each z) n = Capture.each z →
 P_c_heldCaptureS z n)  : LoopSem Try.prog (loopAt Try.f92 0) (Ic_heldCaptureS_sLa x n) (Yc_heldCaptureS_sLa x n) := by
  refine LoopSem.ofHead wide fun k h => ⟨_, _, run_c_heldCaptureS_sLa x n k, ?_⟩
  try delta a1__heldCaptureS_sLa a2__heldCaptureS_sLa a3__heldCaptureS_sLa a4__heldCaptureS_sLa a12__heldCaptureS_sLa a5__heldCaptureS_sLa a6__heldCaptureS_sLa a11__heldCaptureS_sLa a7__heldCaptureS_sLa a8__heldCaptureS_sLa a9__heldCaptureS_sLa a10__heldCaptureS_sLa a13__heldCaptureS_sLa a14__heldCaptureS_sLa
  have g0 := sumBy_takeLe cP x.each (k + 1)
  have g1 := fun hk : k < x.each.length => mkP_fix (seqM_get hm hk)
  with_reducible repeat' (first | apply And.intro | exact flatI | exact flatS | exact rowLens | exact ih | (intro; skip) | apply obsN | apply obsC | apply obA | apply obM | apply obB | apply svA | apply tupA | apply lcA | apply lcS | apply svC | apply liC | apply lbC | apply lsC | apply vIc | apply vBc | apply vSc | apply vLc | apply mapC | apply Hc_heldCaptureS_sLa | apply Ec_heldCaptureS_sLa | apply EW0c_heldCaptureS_sLa | apply EW1c_heldCaptureS_sLa | apply c_markText | apply c_heldIntS | apply c_heldSyntaxS | apply c_heldSyntaxSL | apply ih)
  all_goals (try simp only [std, stdM] at *)
  all_goals (try (first | with_reducible rfl | omega | assumption | (refine (decide_eq_true ?_).symm; assumption) | (refine (decide_eq_false ?_).symm; assumption) | (refine rowGet ?_; (first | omega | (simp only [std, stdM]; omega) | grind)) | (refine getC ?_ rfl; (first | omega | (simp only [std, stdM]; omega) | grind)) | (refine fill_step ?_ ?_; (first | omega | (simp only [std, stdM]; omega) | grind); (first | rfl | exact (Row.eq _).trans rfl)) | (refine fill_init ?_; (first | rfl | exact (Row.eq _).trans rfl)) | (refine set_row ?_; (simp only [List.length_map, List.length_set, mkTo_len]; omega)) | (refine mkToRow ?_; (first | omega | (simp only [std, stdM]; omega) | grind)) | (refine mkTo_row ?_ rfl; (first | omega | (simp only [std, stdM]; omega) | grind)) | (refine mkTo_step ?_ ?_; (first | omega | (simp only [std, stdM]; omega) | grind); (first | grind [sumBy_step, getD_mem', cP_eq, snocI, snocS, rowSnoc])) | grind [sumBy_step, getD_mem', cP_eq, snocI, snocS, rowSnoc]))
theorem run_c_heldCaptureS_s (x : Capture) (n : Int) : aexec Try.prog (Option.getD (Func.body Try.f92) Code.skip) (entry [] [ll (List.map captureC (Capture.each x)), li n] 133)
 [Orc.ghost (Ghost.sel [] [0, 1, 5]), Orc.loop (List.length (Capture.each x) - 0) (Lc_heldCaptureS_sLa x n 0) (Ic_heldCaptureS_sLa x n) [(True, AEx.exit 0, W0c_heldCaptureS_sLa x n
 (li (n + (↑(sumBy cP (Capture.each x)) : Int))), [Orc.fin []]), (False, AEx.ret, W1c_heldCaptureS_sLa x n (li (-1 : Int)), [Orc.fin []])]] (finK Try.prog [ResultVar.tmp 4] []
 (AV.sv (li (n + (↑(sumBy cP (Capture.each x)) : Int))))) = (Tc_heldCaptureS_sLa x n (li 0) (li n) = Lc_heldCaptureS_sLa x n 0 ∧ Ic_heldCaptureS_sLa x n (List.length (Capture.each
 x) - 0) (Lc_heldCaptureS_sLa x n 0) ∧ LoopSem Try.prog (loopAt Try.f92 0) (Ic_heldCaptureS_sLa x n) (Yc_heldCaptureS_sLa x n) ∧ (True → ObsEq [] [] ∧ AV.sv (li (n + (↑(sumBy cP
 (Capture.each x)) : Int))) = AV.sv (li (n + (↑(sumBy cP (Capture.each x)) : Int)))) ∧ (False → ObsEq [] [] ∧ AV.sv (li (-1 : Int)) = AV.sv (li (n + (↑(sumBy cP (Capture.each x)) :
 Int)))) ∧ True) := by kernel_rfl
theorem c_heldCaptureS_s (x : Capture) (n : Int) (h0 : 0 ≤ n) (h : n + sumBy cP x.each ≤ 2147483647) (hm : seqM mkP cP x.each n = x.each) (ih : ∀ z ∈ x.each, ∀ (n : Int) (h0 : 0 ≤
 n) (h : n + sumBy cP z.each ≤ 2147483647) (hm : seqM mkP cP z.each n = z.each), P_c_heldCaptureS z n)  : P_c_heldCaptureS x n := by
  refine CallOK.ofRun wide (run_c_heldCaptureS_s x n) Try.call92 Try.func92 rfl rfl rfl ?_
  have gl := cP_len x.each
  with_reducible repeat' (first | apply And.intro | exact flatI | exact flatS | exact rowLens | exact ih | (intro; skip) | apply obsN | apply obsC | apply obA | apply obM | apply obB | apply svA | apply tupA | apply lcA | apply lcS | apply svC | apply liC | apply lbC | apply lsC | apply vIc | apply vBc | apply vSc | apply vLc | apply mapC | apply Hc_heldCaptureS_sLa | apply Ec_heldCaptureS_sLa | apply Sc_heldCaptureS_sLa | apply EW0c_heldCaptureS_sLa | apply EW1c_heldCaptureS_sLa | apply c_markText | apply c_heldIntS | apply c_heldSyntaxS | apply c_heldSyntaxSL)
  all_goals (try simp only [std, stdM] at *)
  all_goals (try (first | with_reducible rfl | omega | assumption | (refine (decide_eq_true ?_).symm; assumption) | (refine (decide_eq_false ?_).symm; assumption) | (refine rowGet ?_; (first | omega | (simp only [std, stdM]; omega) | grind)) | (refine getC ?_ rfl; (first | omega | (simp only [std, stdM]; omega) | grind)) | (refine fill_step ?_ ?_; (first | omega | (simp only [std, stdM]; omega) | grind); (first | rfl | exact (Row.eq _).trans rfl)) | (refine fill_init ?_; (first | rfl | exact (Row.eq _).trans rfl)) | (refine set_row ?_; (simp only [List.length_map, List.length_set, mkTo_len]; omega)) | (refine mkToRow ?_; (first | omega | (simp only [std, stdM]; omega) | grind)) | (refine mkTo_row ?_ rfl; (first | omega | (simp only [std, stdM]; omega) | grind)) | (refine mkTo_step ?_ ?_; (first | omega | (simp only [std, stdM]; omega) | grind); (first | grind [mkTo_all, snocI, snocS, rowSnoc])) | grind [mkTo_all, snocI, snocS, rowSnoc]))
theorem c_heldCaptureS (x : Capture) : ∀ (n : Int) (h0 : 0 ≤ n) (h : n + sumBy cP x.each ≤ 2147483647) (hm : seqM mkP cP x.each n = x.each), P_c_heldCaptureS x n := Capture.ind (P := fun x => ∀ (n : Int) (h0 : 0 ≤ n) (h : n + sumBy cP x.each ≤ 2147483647) (hm : seqM mkP cP x.each n = x.each), P_c_heldCaptureS x n) (fun x ih n h0 h hm => c_heldCaptureS_s x n h0 h hm ih) x
theorem c_heldCaptureSL (L : List Capture) (n : Int) (h0 : 0 ≤ n) (h : n + sumBy cP L ≤ 2147483647) (hm : seqM mkP cP L n = L) : P_c_heldCaptureS { (default : Capture) with each := L } n := c_heldCaptureS { (default : Capture) with each := L } n h0 h hm
end Go.Proofs.Ytehpjofddjmbpaa
end
section
namespace Go.Proofs.Ytehpjofddjmbpaa
open Go Go.Proofs.Ytehpjofddjmbpaa.Ab
set_option linter.unusedVariables false
set_option linter.unusedSimpArgs false
set_option maxHeartbeats 4000000
abbrev P_c_szIntS (L : List Int) (left : Int) : Prop := CallOK Try.prog 149 [] [ll (L.map intC), li left] [] (.sv (li (sz L.length left)))
theorem run_c_szIntS (L : List Int) (left : Int) : aexec Try.prog (Option.getD (Func.body Try.f149) Code.skip) (entry [] [ll (List.map intC L), li left] 12) [Orc.br [Orc.fin []]
 [Orc.fin []]] (finK Try.prog [ResultVar.tmp 4] [] (AV.sv (li (sz (List.length L) left)))) = (List.length (List.map intC L) ≤ 9223372036854775807 → rng IntKind.i64 (left -
 (↑(List.length (List.map intC L)) : Int)) ∧ (decide (left - (↑(List.length (List.map intC L)) : Int) < 0) = true → ObsEq [] [] ∧ AV.sv (li (-1 : Int)) = AV.sv (li (sz (List.length
 L) left))) ∧ (decide (left - (↑(List.length (List.map intC L)) : Int) < 0) = false → ObsEq [] [] ∧ AV.sv (li (left - (↑(List.length (List.map intC L)) : Int))) = AV.sv (li (sz
 (List.length L) left)))) := by kernel_rfl
theorem c_szIntS (L : List Int) (left : Int) (h0 : 0 ≤ left) (h : left ≤ 2147483647)  : P_c_szIntS L left := by
  refine CallOK.ofRun wide (run_c_szIntS L left) Try.call149 Try.func149 rfl rfl rfl ?_
  with_reducible repeat' (first | apply And.intro | exact flatI | exact flatS | exact rowLens | (intro; skip) | apply obsN | apply obsC | apply obA | apply obM | apply obB | apply svA | apply tupA | apply lcA | apply lcS | apply svC | apply liC | apply lbC | apply lsC | apply vIc | apply vBc | apply vSc | apply vLc | apply mapC)
  all_goals (try simp only [std] at *)
  all_goals (try (first | with_reducible rfl | omega | assumption | (refine (decide_eq_true ?_).symm; assumption) | (refine (decide_eq_false ?_).symm; assumption) | (refine rowGet ?_; (first | omega | (simp only [std]; omega) | grind)) | (refine getC ?_ rfl; (first | omega | (simp only [std]; omega) | grind)) | (refine fill_step ?_ ?_; (first | omega | (simp only [std]; omega) | grind); (first | rfl | exact (Row.eq _).trans rfl)) | (refine fill_init ?_; (first | rfl | exact (Row.eq _).trans rfl)) | grind [sz, snocI, snocS, rowSnoc]))
abbrev P_c_szSyntaxS (L : List Syntax) (left : Int) : Prop := CallOK Try.prog 84 [] [ll (L.map syntaxC), li left] [] (.sv (li (sz (L.length + sumBy wY L) left)))
abbrev P_c_szSyntax (x : Syntax) (left : Int) : Prop := CallOK Try.prog 51 [] [syntaxA x, li left] [] (.sv (li (sz (wY x) left)))
def Tc_szSyntaxSLa (L : List Syntax) (left : Int) (x0 : SV) (x1 : SV) : St := St.mk (regsOf 27 [(0, AV.sv (ll (List.map syntaxC L))), (1, AV.sv x1), (5, AV.sv x0)]) [] 0 
def Lc_szSyntaxSLa (L : List Syntax) (left : Int) (k : Nat × Int) : St := Tc_szSyntaxSLa L left (li (↑(Prod.fst k) : Int)) (li (Prod.snd k)) 
def Ic_szSyntaxSLa (L : List Syntax) (left : Int) : Nat → St → Prop := Head (Lc_szSyntaxSLa L left) (fun k => Prod.fst k ≤ List.length L ∧ List.length L ≤ 9223372036854775807 ∧ 0 ≤
 Prod.snd k ∧ Prod.snd k ≤ left ∧ sz (sumBy wY (List.drop (Prod.fst k) L)) (Prod.snd k) = sz (List.length L + sumBy wY L) left) fun k => List.length L - Prod.fst k 
def W0c_szSyntaxSLa (L : List Syntax) (left : Int) (x0 : SV) : St := St.mk (regsOf 27 [(1, AV.sv x0)]) [] 0 
def W1c_szSyntaxSLa (L : List Syntax) (left : Int) (x0 : SV) : St := St.mk (regsOf 27 [(4, AV.sv x0)]) [] 0 
def Yc_szSyntaxSLa (L : List Syntax) (left : Int) : List (Prop × AEx × St) := [(0 ≤ sz (List.length L + sumBy wY L) left, AEx.exit 0, W0c_szSyntaxSLa L left (li (sz (List.length L
 + sumBy wY L) left))), (sz (List.length L + sumBy wY L) left = (-1 : Int), AEx.ret, W1c_szSyntaxSLa L left (li (-1 : Int)))]
theorem Hc_szSyntaxSLa {L : List Syntax} {left : Int} {k : Nat × Int} {m : Nat} (h : (fun k => Prod.fst k ≤ List.length L ∧ List.length L ≤ 9223372036854775807 ∧ 0 ≤ Prod.snd k ∧
 Prod.snd k ≤ left ∧ sz (sumBy wY (List.drop (Prod.fst k) L)) (Prod.snd k) = sz (List.length L + sumBy wY L) left) k) (hm : (fun k => List.length L - Prod.fst k) k = m) :
 Ic_szSyntaxSLa L left m (Lc_szSyntaxSLa L left k) := hm ▸ Head.mk h
theorem Ec_szSyntaxSLa {L : List Syntax} {left : Int} {k : Nat × Int} {x0 : SV} {x1 : SV} (h0 : x0 = (li (↑(Prod.fst k) : Int))) (h1 : x1 = (li (Prod.snd k))) : Tc_szSyntaxSLa L
 left x0 x1 = Lc_szSyntaxSLa L left k := by
  rw [h0, h1]
  rfl
theorem EW0c_szSyntaxSLa {L : List Syntax} {left : Int} {x0 y0 : SV} (h0 : x0 = y0) : W0c_szSyntaxSLa L left x0 = W0c_szSyntaxSLa L left y0 := by rw [h0]
theorem EW1c_szSyntaxSLa {L : List Syntax} {left : Int} {x0 y0 : SV} (h0 : x0 = y0) : W1c_szSyntaxSLa L left x0 = W1c_szSyntaxSLa L left y0 := by rw [h0]
theorem run_c_szSyntaxSLa (L : List Syntax) (left : Int) (k : Nat × Int) : aexec Try.prog (loopAt Try.f84 0) (Lc_szSyntaxSLa L left k) [Orc.br [Orc.cells (syntaxF (List.getD L
 (Prod.fst k) default)), Orc.call [Mode.rd, Mode.rd] [] (AV.sv (li (sz (wY (List.getD L (Prod.fst k) default)) (Prod.snd k)))), Orc.br [Orc.ghost (Ghost.sel [] [4]), Orc.out 1]
 [Orc.ghost (Ghost.sel [] [0, 1, 5]), Orc.goto (List.length L - (Prod.fst k + 1)) (Lc_szSyntaxSLa L left (Prod.fst k + 1, sz (wY (List.getD L (Prod.fst k) default)) (Prod.snd
 k)))]] [Orc.ghost (Ghost.sel [] [1]), Orc.out 0]] (loopK (Ic_szSyntaxSLa L left) (Yc_szSyntaxSLa L left) (List.length L - Prod.fst k)) = (List.length (List.map syntaxC L) ≤
 9223372036854775807 → (decide ((↑(Prod.fst k) : Int) < (↑(List.length (List.map syntaxC L)) : Int)) = true → (0 ≤ (↑(Prod.fst k) : Int) ∧ (List.map syntaxC L)[Int.toNat
 (↑(Prod.fst k) : Int)]? = some (syntaxF (List.getD L (Prod.fst k) default))) ∧ P_c_szSyntax (List.getD L (Prod.fst k) default) (Prod.snd k) ∧ (decide (sz (wY (List.getD L
 (Prod.fst k) default)) (Prod.snd k) < 0) = true → sz (List.length L + sumBy wY L) left = (-1 : Int) ∧ W1c_szSyntaxSLa L left (li (-1 : Int)) = W1c_szSyntaxSLa L left (li (-1 :
 Int))) ∧ (decide (sz (wY (List.getD L (Prod.fst k) default)) (Prod.snd k) < 0) = false → rng IntKind.i64 ((↑(Prod.fst k) : Int) + 1) ∧ List.length L - (Prod.fst k + 1) <
 List.length L - Prod.fst k ∧ Tc_szSyntaxSLa L left (li ((↑(Prod.fst k) : Int) + 1)) (li (sz (wY (List.getD L (Prod.fst k) default)) (Prod.snd k))) = Lc_szSyntaxSLa L left
 (Prod.fst k + 1, sz (wY (List.getD L (Prod.fst k) default)) (Prod.snd k)) ∧ Ic_szSyntaxSLa L left (List.length L - (Prod.fst k + 1)) (Lc_szSyntaxSLa L left (Prod.fst k + 1, sz (wY
 (List.getD L (Prod.fst k) default)) (Prod.snd k))))) ∧ (decide ((↑(Prod.fst k) : Int) < (↑(List.length (List.map syntaxC L)) : Int)) = false → 0 ≤ sz (List.length L + sumBy wY L)
 left ∧ W0c_szSyntaxSLa L left (li (Prod.snd k)) = W0c_szSyntaxSLa L left (li (sz (List.length L + sumBy wY L) left)))) := by kernel_rfl
theorem Sc_szSyntaxSLa (L : List Syntax) (left : Int) (h0 : 0 ≤ left) (h : left ≤ 2147483647) (ih : ∀ (x : Syntax), x ∈ L → ∀ (left : Int), 0 ≤ left → left ≤ 2147483647 →
 P_c_szSyntax x left)  : LoopSem Try.prog (loopAt Try.f84 0) (Ic_szSyntaxSLa L left) (Yc_szSyntaxSLa L left) := by
  refine LoopSem.ofHead wide fun k h => ⟨_, _, run_c_szSyntaxSLa L left k, ?_⟩
  obtain ⟨i, n⟩ := k
  simp only at *
  with_reducible repeat' (first | apply And.intro | exact flatI | exact flatS | exact rowLens | exact ih | (intro; skip) | apply obsN | apply obsC | apply obA | apply obM | apply obB | apply svA | apply tupA | apply lcA | apply lcS | apply svC | apply liC | apply lbC | apply lsC | apply vIc | apply vBc | apply vSc | apply vLc | apply mapC | apply Hc_szSyntaxSLa | apply Ec_szSyntaxSLa | apply EW0c_szSyntaxSLa | apply EW1c_szSyntaxSLa | apply ih)
  all_goals (try simp only [std] at *)
  all_goals (try (first | with_reducible rfl | omega | assumption | (refine (decide_eq_true ?_).symm; assumption) | (refine (decide_eq_false ?_).symm; assumption) | (refine rowGet ?_; (first | omega | (simp only [std]; omega) | grind)) | (refine getC ?_ rfl; (first | omega | (simp only [std]; omega) | grind)) | (refine fill_step ?_ ?_; (first | omega | (simp only [std]; omega) | grind); (first | rfl | exact (Row.eq _).trans rfl)) | (refine fill_init ?_; (first | rfl | exact (Row.eq _).trans rfl)) | grind [drop_get, sumBy, sz, getD_mem', snocI, snocS, rowSnoc]))
theorem run_c_szSyntaxS (L : List Syntax) (left : Int) : aexec Try.prog (Option.getD (Func.body Try.f84) Code.skip) (entry [] [ll (List.map syntaxC L), li left] 27) [Orc.br
 [Orc.fin []] [Orc.ghost (Ghost.sel [] [0, 1, 5]), Orc.loop (List.length L - 0) (Lc_szSyntaxSLa L left (0, left - (↑(List.length L) : Int))) (Ic_szSyntaxSLa L left) [(0 ≤ sz
 (List.length L + sumBy wY L) left, AEx.exit 0, W0c_szSyntaxSLa L left (li (sz (List.length L + sumBy wY L) left)), [Orc.fin []]), (sz (List.length L + sumBy wY L) left = (-1 :
 Int), AEx.ret, W1c_szSyntaxSLa L left (li (-1 : Int)), [Orc.fin []])]]] (finK Try.prog [ResultVar.tmp 4] [] (AV.sv (li (sz (List.length L + sumBy wY L) left)))) = (List.length
 (List.map syntaxC L) ≤ 9223372036854775807 → rng IntKind.i64 (left - (↑(List.length (List.map syntaxC L)) : Int)) ∧ (decide (left - (↑(List.length (List.map syntaxC L)) : Int) <
 0) = true → ObsEq [] [] ∧ AV.sv (li (-1 : Int)) = AV.sv (li (sz (List.length L + sumBy wY L) left))) ∧ (decide (left - (↑(List.length (List.map syntaxC L)) : Int) < 0) = false →
 Tc_szSyntaxSLa L left (li 0) (li (left - (↑(List.length (List.map syntaxC L)) : Int))) = Lc_szSyntaxSLa L left (0, left - (↑(List.length L) : Int)) ∧ Ic_szSyntaxSLa L left
 (List.length L - 0) (Lc_szSyntaxSLa L left (0, left - (↑(List.length L) : Int))) ∧ LoopSem Try.prog (loopAt Try.f84 0) (Ic_szSyntaxSLa L left) (Yc_szSyntaxSLa L left) ∧
 (Int.NonNeg (sz (List.length L + sumBy wY L) left - 0) → ObsEq [] [] ∧ AV.sv (li (sz (List.length L + sumBy wY L) left)) = AV.sv (li (sz (List.length L + sumBy wY L) left))) ∧ (sz
 (List.length L + sumBy wY L) left = (-1 : Int) → ObsEq [] [] ∧ AV.sv (li (-1 : Int)) = AV.sv (li (sz (List.length L + sumBy wY L) left))) ∧ True)) := by kernel_rfl
theorem c_szSyntaxS (L : List Syntax) (left : Int) (h0 : 0 ≤ left) (h : left ≤ 2147483647) (ih : ∀ x ∈ L, ∀ (left : Int) (h0 : 0 ≤ left) (h : left ≤ 2147483647), P_c_szSyntax x
 left)  : P_c_szSyntaxS L left := by
  refine CallOK.ofRun wide (run_c_szSyntaxS L left) Try.call84 Try.func84 rfl rfl rfl ?_
  with_reducible repeat' (first | apply And.intro | exact flatI | exact flatS | exact rowLens | exact ih | (intro; skip) | apply obsN | apply obsC | apply obA | apply obM | apply obB | apply svA | apply tupA | apply lcA | apply lcS | apply svC | apply liC | apply lbC | apply lsC | apply vIc | apply vBc | apply vSc | apply vLc | apply mapC | apply Hc_szSyntaxSLa | apply Ec_szSyntaxSLa | apply Sc_szSyntaxSLa | apply EW0c_szSyntaxSLa | apply EW1c_szSyntaxSLa)
  all_goals (try simp only [std] at *)
  all_goals (try (first | with_reducible rfl | omega | assumption | (refine (decide_eq_true ?_).symm; assumption) | (refine (decide_eq_false ?_).symm; assumption) | (refine rowGet ?_; (first | omega | (simp only [std]; omega) | grind)) | (refine getC ?_ rfl; (first | omega | (simp only [std]; omega) | grind)) | (refine fill_step ?_ ?_; (first | omega | (simp only [std]; omega) | grind); (first | rfl | exact (Row.eq _).trans rfl)) | (refine fill_init ?_; (first | rfl | exact (Row.eq _).trans rfl)) | grind [sz, snocI, snocS, rowSnoc]))
theorem run_c_szSyntax_s (x : Syntax) (left : Int) : aexec Try.prog (Option.getD (Func.body Try.f51) Code.skip) (entry [] [syntaxA x, li left] 25) [Orc.br [Orc.fin []] [Orc.call
 [Mode.rd, Mode.rd] [] (AV.sv (li (sz (List.length (Syntax.scopes x)) (left - (↑(List.length (Array.toList (ByteArray.data (Syntax.text x)))) : Int))))), Orc.br [Orc.fin []]
 [Orc.call [Mode.rd, Mode.rd] [] (AV.sv (li (sz (List.length (Syntax.items x) + sumBy wY (Syntax.items x)) (sz (List.length (Syntax.scopes x)) (left - (↑(List.length (Array.toList
 (ByteArray.data (Syntax.text x)))) : Int)))))), Orc.br [Orc.fin []] [Orc.fin []]]]] (finK Try.prog [ResultVar.tmp 4] [] (AV.sv (li (sz (wY x) left)))) = (List.length (Array.toList
 (ByteArray.data (Syntax.text x))) ≤ 9223372036854775807 → rng IntKind.i64 (left - (↑(List.length (Array.toList (ByteArray.data (Syntax.text x)))) : Int)) ∧ (decide (left -
 (↑(List.length (Array.toList (ByteArray.data (Syntax.text x)))) : Int) < 0) = true → ObsEq [] [] ∧ AV.sv (li (-1 : Int)) = AV.sv (li (sz (wY x) left))) ∧ (decide (left -
 (↑(List.length (Array.toList (ByteArray.data (Syntax.text x)))) : Int) < 0) = false → P_c_szIntS (Syntax.scopes x) (left - (↑(List.length (Array.toList (ByteArray.data
 (Syntax.text x)))) : Int)) ∧ (decide (sz (List.length (Syntax.scopes x)) (left - (↑(List.length (Array.toList (ByteArray.data (Syntax.text x)))) : Int)) < 0) = true → ObsEq [] []
 ∧ AV.sv (li (-1 : Int)) = AV.sv (li (sz (wY x) left))) ∧ (decide (sz (List.length (Syntax.scopes x)) (left - (↑(List.length (Array.toList (ByteArray.data (Syntax.text x)))) :
 Int)) < 0) = false → P_c_szSyntaxS (Syntax.items x) (sz (List.length (Syntax.scopes x)) (left - (↑(List.length (Array.toList (ByteArray.data (Syntax.text x)))) : Int))) ∧ (decide
 (sz (List.length (Syntax.items x) + sumBy wY (Syntax.items x)) (sz (List.length (Syntax.scopes x)) (left - (↑(List.length (Array.toList (ByteArray.data (Syntax.text x)))) : Int)))
 < 0) = true → ObsEq [] [] ∧ AV.sv (li (-1 : Int)) = AV.sv (li (sz (wY x) left))) ∧ (decide (sz (List.length (Syntax.items x) + sumBy wY (Syntax.items x)) (sz (List.length
 (Syntax.scopes x)) (left - (↑(List.length (Array.toList (ByteArray.data (Syntax.text x)))) : Int))) < 0) = false → ObsEq [] [] ∧ AV.sv (li (sz (List.length (Syntax.items x) +
 sumBy wY (Syntax.items x)) (sz (List.length (Syntax.scopes x)) (left - (↑(List.length (Array.toList (ByteArray.data (Syntax.text x)))) : Int))))) = AV.sv (li (sz (wY x) left))))))
 := by kernel_rfl
theorem c_szSyntax_s (x : Syntax) (left : Int) (h0 : 0 ≤ left) (h : left ≤ 2147483647) (ih : ∀ z ∈ x.items, ∀ (left : Int) (h0 : 0 ≤ left) (h : left ≤ 2147483647), P_c_szSyntax z
 left)  : P_c_szSyntax x left := by
  refine CallOK.ofRun wide (run_c_szSyntax_s x left) Try.call51 Try.func51 rfl rfl rfl ?_
  with_reducible repeat' (first | apply And.intro | exact flatI | exact flatS | exact rowLens | exact ih | (intro; skip) | apply obsN | apply obsC | apply obA | apply obM | apply obB | apply svA | apply tupA | apply lcA | apply lcS | apply svC | apply liC | apply lbC | apply lsC | apply vIc | apply vBc | apply vSc | apply vLc | apply mapC | apply c_szIntS | apply c_szSyntaxS | apply ih)
  all_goals (try simp only [std] at *)
  all_goals (try (first | with_reducible rfl | omega | assumption | (refine (decide_eq_true ?_).symm; assumption) | (refine (decide_eq_false ?_).symm; assumption) | (refine rowGet ?_; (first | omega | (simp only [std]; omega) | grind)) | (refine getC ?_ rfl; (first | omega | (simp only [std]; omega) | grind)) | (refine fill_step ?_ ?_; (first | omega | (simp only [std]; omega) | grind); (first | rfl | exact (Row.eq _).trans rfl)) | (refine fill_init ?_; (first | rfl | exact (Row.eq _).trans rfl)) | grind [wY_eq, sz, wS, snocI, snocS, rowSnoc]))
theorem c_szSyntax (x : Syntax) : ∀ (left : Int) (h0 : 0 ≤ left) (h : left ≤ 2147483647), P_c_szSyntax x left := Syntax.ind (P := fun x => ∀ (left : Int) (h0 : 0 ≤ left) (h : left ≤ 2147483647), P_c_szSyntax x left) (fun x ih left h0 h => c_szSyntax_s x left h0 h ih) x
end Go.Proofs.Ytehpjofddjmbpaa
end
section
namespace Go.Proofs.Ytehpjofddjmbpaa
open Go Go.Proofs.Ytehpjofddjmbpaa.Ab
set_option linter.unusedVariables false
set_option linter.unusedSimpArgs false
set_option maxHeartbeats 4000000
abbrev P_c_toIntS (L : List Int) : Prop := CallOK Try.prog 61 [] [ll (L.map intC)] [.arr true 1 (L.map intC)] (.sv (.one (.ref 0)))
def Tc_toIntSLa (L : List Int) (x0 : SV) (x1 : Ob) : St := St.mk (regsOf 22 [(0, AV.sv (ll (List.map intC L))), (3, AV.sv (SV.one (AC.ref 0))), (4, AV.sv x0)]) [x1] 0 
def Lc_toIntSLa (L : List Int) (k : Nat) : St := Tc_toIntSLa L (li (↑k : Int)) (Ob.arr true 1 (List.map intC (fillTo L k))) 
def Ic_toIntSLa (L : List Int) : Nat → St → Prop := Head (Lc_toIntSLa L) (fun k => k ≤ List.length L ∧ List.length L ≤ 9223372036854775807) fun k => List.length L - k 
def W0c_toIntSLa (L : List Int) (x0 : Ob) : St := St.mk (regsOf 22 [(3, AV.sv (SV.one (AC.ref 0)))]) [x0] 0 
def Yc_toIntSLa (L : List Int) : List (Prop × AEx × St) := [(True, AEx.exit 0, W0c_toIntSLa L (Ob.arr true 1 (List.map intC L)))]
theorem Hc_toIntSLa {L : List Int} {k : Nat} {m : Nat} (h : (fun k => k ≤ List.length L ∧ List.length L ≤ 9223372036854775807) k) (hm : (fun k => List.length L - k) k = m) :
 Ic_toIntSLa L m (Lc_toIntSLa L k) := hm ▸ Head.mk h
theorem Ec_toIntSLa {L : List Int} {k : Nat} {x0 : SV} {x1 : Ob} (h0 : x0 = (li (↑k : Int))) (h1 : x1 = (Ob.arr true 1 (List.map intC (fillTo L k)))) : Tc_toIntSLa L x0 x1 =
 Lc_toIntSLa L k := by
  rw [h0, h1]
  rfl
theorem EW0c_toIntSLa {L : List Int} {x0 y0 : Ob} (h0 : x0 = y0) : W0c_toIntSLa L x0 = W0c_toIntSLa L y0 := by rw [h0]
theorem run_c_toIntSLa (L : List Int) (k : Nat) : aexec Try.prog (loopAt Try.f61 0) (Lc_toIntSLa L k) [Orc.br [Orc.cells (intC (List.getD L k default)), Orc.cells (intC (List.getD
 (fillTo L k) (Int.toNat (↑k : Int)) default)), Orc.ghost (Ghost.sel [0] [0, 3, 4]), Orc.goto (List.length L - (k + 1)) (Lc_toIntSLa L (k + 1))] [Orc.ghost (Ghost.sel [0] [3]),
 Orc.out 0]] (loopK (Ic_toIntSLa L) (Yc_toIntSLa L) (List.length L - k)) = (List.length (List.map intC L) ≤ 9223372036854775807 → (decide ((↑k : Int) < (↑(List.length (List.map
 intC L)) : Int)) = true → (0 ≤ (↑k : Int) ∧ (List.map intC L)[Int.toNat (↑k : Int)]? = some [cI (List.getD L k 0)]) ∧ (0 ≤ (↑k : Int) ∧ Int.toNat (↑k : Int) < List.length
 (List.map intC (fillTo L k))) ∧ (List.map intC (fillTo L k))[Int.toNat (↑k : Int)]? = some [cI (List.getD (fillTo L k) (Int.toNat (↑k : Int)) 0)] ∧ rng IntKind.i64 ((↑k : Int) +
 1) ∧ List.length L - (k + 1) < List.length L - k ∧ Tc_toIntSLa L (li ((↑k : Int) + 1)) (Ob.arr true 1 (List.set (List.map intC (fillTo L k)) (Int.toNat (↑k : Int)) [cI (List.getD
 L k 0)])) = Lc_toIntSLa L (k + 1) ∧ Ic_toIntSLa L (List.length L - (k + 1)) (Lc_toIntSLa L (k + 1))) ∧ (decide ((↑k : Int) < (↑(List.length (List.map intC L)) : Int)) = false →
 True ∧ W0c_toIntSLa L (Ob.arr true 1 (List.map intC (fillTo L k))) = W0c_toIntSLa L (Ob.arr true 1 (List.map intC L)))) := by kernel_rfl
theorem Sc_toIntSLa (L : List Int) (h : List.length L ≤ 1048576)  : LoopSem Try.prog (loopAt Try.f61 0) (Ic_toIntSLa L) (Yc_toIntSLa L) := by
  refine LoopSem.ofHead wide fun k h => ⟨_, _, run_c_toIntSLa L k, ?_⟩
  with_reducible repeat' (first | apply And.intro | exact flatI | exact flatS | exact rowLens | (intro; skip) | apply obsN | apply obsC | apply obA | apply obM | apply obB | apply svA | apply tupA | apply lcA | apply lcS | apply svC | apply liC | apply lbC | apply lsC | apply vIc | apply vBc | apply vSc | apply vLc | apply mapC | apply Hc_toIntSLa | apply Ec_toIntSLa | apply EW0c_toIntSLa)
  all_goals (try simp only [std] at *)
  all_goals (try (first | with_reducible rfl | omega | assumption | (refine (decide_eq_true ?_).symm; assumption) | (refine (decide_eq_false ?_).symm; assumption) | (refine rowGet ?_; (first | omega | (simp only [std]; omega) | grind)) | (refine getC ?_ rfl; (first | omega | (simp only [std]; omega) | grind)) | (refine fill_step ?_ ?_; (first | omega | (simp only [std]; omega) | grind); (first | rfl | exact (Row.eq _).trans rfl)) | (refine fill_init ?_; (first | rfl | exact (Row.eq _).trans rfl)) | grind [fillTo_all, snocI, snocS, rowSnoc]))
theorem run_c_toIntS (L : List Int) : aexec Try.prog (Option.getD (Func.body Try.f61) Code.skip) (entry [] [ll (List.map intC L)] 22) [Orc.ghost (Ghost.sel [0] [0, 3, 4]), Orc.loop
 (List.length L - 0) (Lc_toIntSLa L 0) (Ic_toIntSLa L) [(True, AEx.exit 0, W0c_toIntSLa L (Ob.arr true 1 (List.map intC L)), [Orc.fin [0]])]] (finK Try.prog [ResultVar.tmp 2]
 [Ob.arr true 1 (List.map intC L)] (AV.sv (SV.one (AC.ref 0)))) = (List.length (List.map intC L) ≤ 9223372036854775807 → (0 ≤ (↑(List.length (List.map intC L)) : Int) ∧ 8 *
 Int.toNat (↑(List.length (List.map intC L)) : Int) ≤ 281474976710656) ∧ Tc_toIntSLa L (li 0) (Ob.arr true 1 (List.replicate (Int.toNat (↑(List.length (List.map intC L)) : Int))
 [cI 0])) = Lc_toIntSLa L 0 ∧ Ic_toIntSLa L (List.length L - 0) (Lc_toIntSLa L 0) ∧ LoopSem Try.prog (loopAt Try.f61 0) (Ic_toIntSLa L) (Yc_toIntSLa L) ∧ (True → ObsEq [Ob.arr true
 1 (List.map intC L)] [Ob.arr true 1 (List.map intC L)] ∧ AV.sv (SV.one (AC.ref 0)) = AV.sv (SV.one (AC.ref 0))) ∧ True) := by kernel_rfl
theorem c_toIntS (L : List Int) (h : L.length ≤ 1048576)  : P_c_toIntS L := by
  refine CallOK.ofRun wide (run_c_toIntS L) Try.call61 Try.func61 rfl rfl rfl ?_
  with_reducible repeat' (first | apply And.intro | exact flatI | exact flatS | exact rowLens | (intro; skip) | apply obsN | apply obsC | apply obA | apply obM | apply obB | apply svA | apply tupA | apply lcA | apply lcS | apply svC | apply liC | apply lbC | apply lsC | apply vIc | apply vBc | apply vSc | apply vLc | apply mapC | apply Hc_toIntSLa | apply Ec_toIntSLa | apply Sc_toIntSLa | apply EW0c_toIntSLa)
  all_goals (try simp only [std] at *)
  all_goals (try (first | with_reducible rfl | omega | assumption | (refine (decide_eq_true ?_).symm; assumption) | (refine (decide_eq_false ?_).symm; assumption) | (refine rowGet ?_; (first | omega | (simp only [std]; omega) | grind)) | (refine getC ?_ rfl; (first | omega | (simp only [std]; omega) | grind)) | (refine fill_step ?_ ?_; (first | omega | (simp only [std]; omega) | grind); (first | rfl | exact (Row.eq _).trans rfl)) | (refine fill_init ?_; (first | rfl | exact (Row.eq _).trans rfl)) | grind [snocI, snocS, rowSnoc]))
abbrev P_c_toSyntaxS (L : List Syntax) : Prop := CallOK Try.prog 86 [] [ll (L.map syntaxC)] [.arr true 5 (L.map syntaxC)] (.sv (.one (.ref 0)))
abbrev P_c_toSyntax (x : Syntax) : Prop := CallOK Try.prog 54 [] [syntaxA x] (syntaxO x) (.sv (syntaxR x 0))
def Tc_toSyntaxSLa (L : List Syntax) (x0 : SV) (x1 : Ob) : St := St.mk (regsOf 23 [(0, AV.sv (ll (List.map syntaxC L))), (3, AV.sv (SV.one (AC.ref 0))), (4, AV.sv x0)]) [x1] 0 
def Lc_toSyntaxSLa (L : List Syntax) (k : Nat) : St := Tc_toSyntaxSLa L (li (↑k : Int)) (Ob.arr true 5 (List.map syntaxC (fillTo L k))) 
def Ic_toSyntaxSLa (L : List Syntax) : Nat → St → Prop := Head (Lc_toSyntaxSLa L) (fun k => k ≤ List.length L ∧ List.length L ≤ 9223372036854775807) fun k => List.length L - k 
def W0c_toSyntaxSLa (L : List Syntax) (x0 : Ob) : St := St.mk (regsOf 23 [(3, AV.sv (SV.one (AC.ref 0)))]) [x0] 0 
def Yc_toSyntaxSLa (L : List Syntax) : List (Prop × AEx × St) := [(True, AEx.exit 0, W0c_toSyntaxSLa L (Ob.arr true 5 (List.map syntaxC L)))]
theorem Hc_toSyntaxSLa {L : List Syntax} {k : Nat} {m : Nat} (h : (fun k => k ≤ List.length L ∧ List.length L ≤ 9223372036854775807) k) (hm : (fun k => List.length L - k) k = m) :
 Ic_toSyntaxSLa L m (Lc_toSyntaxSLa L k) := hm ▸ Head.mk h
theorem Ec_toSyntaxSLa {L : List Syntax} {k : Nat} {x0 : SV} {x1 : Ob} (h0 : x0 = (li (↑k : Int))) (h1 : x1 = (Ob.arr true 5 (List.map syntaxC (fillTo L k)))) : Tc_toSyntaxSLa L x0
 x1 = Lc_toSyntaxSLa L k := by
  rw [h0, h1]
  rfl
theorem EW0c_toSyntaxSLa {L : List Syntax} {x0 y0 : Ob} (h0 : x0 = y0) : W0c_toSyntaxSLa L x0 = W0c_toSyntaxSLa L y0 := by rw [h0]
theorem run_c_toSyntaxSLa (L : List Syntax) (k : Nat) : aexec Try.prog (loopAt Try.f86 0) (Lc_toSyntaxSLa L k) [Orc.br [Orc.cells (syntaxF (List.getD L k default)), Orc.call
 [Mode.rd] (syntaxO (List.getD L k default)) (AV.sv (syntaxR (List.getD L k default) 0)), Orc.cells (syntaxF (List.getD (fillTo L k) (Int.toNat (↑k : Int)) default)), Orc.ghost
 (Ghost.sel [0] [0, 3, 4]), Orc.goto (List.length L - (k + 1)) (Lc_toSyntaxSLa L (k + 1))] [Orc.ghost (Ghost.sel [0] [3]), Orc.out 0]] (loopK (Ic_toSyntaxSLa L) (Yc_toSyntaxSLa L)
 (List.length L - k)) = (List.length (List.map syntaxC L) ≤ 9223372036854775807 → (decide ((↑k : Int) < (↑(List.length (List.map syntaxC L)) : Int)) = true → (0 ≤ (↑k : Int) ∧
 (List.map syntaxC L)[Int.toNat (↑k : Int)]? = some (syntaxF (List.getD L k default))) ∧ P_c_toSyntax (List.getD L k default) ∧ (0 ≤ (↑k : Int) ∧ Int.toNat (↑k : Int) < List.length
 (List.map syntaxC (fillTo L k))) ∧ (List.map syntaxC (fillTo L k))[Int.toNat (↑k : Int)]? = some (syntaxF (List.getD (fillTo L k) (Int.toNat (↑k : Int)) default)) ∧ rng
 IntKind.i64 ((↑k : Int) + 1) ∧ List.length L - (k + 1) < List.length L - k ∧ Tc_toSyntaxSLa L (li ((↑k : Int) + 1)) (Ob.arr true 5 (List.set (List.map syntaxC (fillTo L k))
 (Int.toNat (↑k : Int)) (syntaxF (List.getD L k default)))) = Lc_toSyntaxSLa L (k + 1) ∧ Ic_toSyntaxSLa L (List.length L - (k + 1)) (Lc_toSyntaxSLa L (k + 1))) ∧ (decide ((↑k :
 Int) < (↑(List.length (List.map syntaxC L)) : Int)) = false → True ∧ W0c_toSyntaxSLa L (Ob.arr true 5 (List.map syntaxC (fillTo L k))) = W0c_toSyntaxSLa L (Ob.arr true 5 (List.map
 syntaxC L)))) := by kernel_rfl
theorem Sc_toSyntaxSLa (L : List Syntax) (h : List.length L + sumBy wY L ≤ 1048576) (ih : ∀ (x : Syntax), x ∈ L → wY x ≤ 1048576 → P_c_toSyntax x)  : LoopSem Try.prog (loopAt
 Try.f86 0) (Ic_toSyntaxSLa L) (Yc_toSyntaxSLa L) := by
  refine LoopSem.ofHead wide fun k h => ⟨_, _, run_c_toSyntaxSLa L k, ?_⟩
  with_reducible repeat' (first | apply And.intro | exact flatI | exact flatS | exact rowLens | exact ih | (intro; skip) | apply obsN | apply obsC | apply obA | apply obM | apply obB | apply svA | apply tupA | apply lcA | apply lcS | apply svC | apply liC | apply lbC | apply lsC | apply vIc | apply vBc | apply vSc | apply vLc | apply mapC | apply Hc_toSyntaxSLa | apply Ec_toSyntaxSLa | apply EW0c_toSyntaxSLa | apply ih)
  all_goals (try simp only [std] at *)
  all_goals (try (first | with_reducible rfl | omega | assumption | (refine (decide_eq_true ?_).symm; assumption) | (refine (decide_eq_false ?_).symm; assumption) | (refine rowGet ?_; (first | omega | (simp only [std]; omega) | grind)) | (refine getC ?_ rfl; (first | omega | (simp only [std]; omega) | grind)) | (refine fill_step ?_ ?_; (first | omega | (simp only [std]; omega) | grind); (first | rfl | exact (Row.eq _).trans rfl)) | (refine fill_init ?_; (first | rfl | exact (Row.eq _).trans rfl)) | grind [fillTo_all, getD_mem', sumBy_mem, snocI, snocS, rowSnoc]))
theorem run_c_toSyntaxS (L : List Syntax) : aexec Try.prog (Option.getD (Func.body Try.f86) Code.skip) (entry [] [ll (List.map syntaxC L)] 23) [Orc.ghost (Ghost.sel [0] [0, 3, 4]),
 Orc.loop (List.length L - 0) (Lc_toSyntaxSLa L 0) (Ic_toSyntaxSLa L) [(True, AEx.exit 0, W0c_toSyntaxSLa L (Ob.arr true 5 (List.map syntaxC L)), [Orc.fin [0]])]] (finK Try.prog
 [ResultVar.tmp 2] [Ob.arr true 5 (List.map syntaxC L)] (AV.sv (SV.one (AC.ref 0)))) = (List.length (List.map syntaxC L) ≤ 9223372036854775807 → (0 ≤ (↑(List.length (List.map
 syntaxC L)) : Int) ∧ 80 * Int.toNat (↑(List.length (List.map syntaxC L)) : Int) ≤ 281474976710656) ∧ Tc_toSyntaxSLa L (li 0) (Ob.arr true 5 (List.replicate (Int.toNat
 (↑(List.length (List.map syntaxC L)) : Int)) [cI 0, cI 0, cS (ByteArray.mk #[]), Cell.list [], Cell.list []])) = Lc_toSyntaxSLa L 0 ∧ Ic_toSyntaxSLa L (List.length L - 0)
 (Lc_toSyntaxSLa L 0) ∧ LoopSem Try.prog (loopAt Try.f86 0) (Ic_toSyntaxSLa L) (Yc_toSyntaxSLa L) ∧ (True → ObsEq [Ob.arr true 5 (List.map syntaxC L)] [Ob.arr true 5 (List.map
 syntaxC L)] ∧ AV.sv (SV.one (AC.ref 0)) = AV.sv (SV.one (AC.ref 0))) ∧ True) := by kernel_rfl
theorem c_toSyntaxS (L : List Syntax) (h : L.length + sumBy wY L ≤ 1048576) (ih : ∀ x ∈ L, ∀ (h : wY x ≤ 1048576), P_c_toSyntax x)  : P_c_toSyntaxS L := by
  refine CallOK.ofRun wide (run_c_toSyntaxS L) Try.call86 Try.func86 rfl rfl rfl ?_
  with_reducible repeat' (first | apply And.intro | exact flatI | exact flatS | exact rowLens | exact ih | (intro; skip) | apply obsN | apply obsC | apply obA | apply obM | apply obB | apply svA | apply tupA | apply lcA | apply lcS | apply svC | apply liC | apply lbC | apply lsC | apply vIc | apply vBc | apply vSc | apply vLc | apply mapC | apply Hc_toSyntaxSLa | apply Ec_toSyntaxSLa | apply Sc_toSyntaxSLa | apply EW0c_toSyntaxSLa)
  all_goals (try simp only [std] at *)
  all_goals (try (first | with_reducible rfl | omega | assumption | (refine (decide_eq_true ?_).symm; assumption) | (refine (decide_eq_false ?_).symm; assumption) | (refine rowGet ?_; (first | omega | (simp only [std]; omega) | grind)) | (refine getC ?_ rfl; (first | omega | (simp only [std]; omega) | grind)) | (refine fill_step ?_ ?_; (first | omega | (simp only [std]; omega) | grind); (first | rfl | exact (Row.eq _).trans rfl)) | (refine fill_init ?_; (first | rfl | exact (Row.eq _).trans rfl)) | grind [snocI, snocS, rowSnoc]))
theorem run_c_toSyntax_s (x : Syntax) : aexec Try.prog (Option.getD (Func.body Try.f54) Code.skip) (entry [] [syntaxA x] 22) [Orc.call [Mode.rd] [Ob.arr true 1 (List.map intC
 (Syntax.scopes x))] (AV.sv (SV.one (AC.ref 0))), Orc.call [Mode.rd] [Ob.arr true 5 (List.map syntaxC (Syntax.items x))] (AV.sv (SV.one (AC.ref 0))), Orc.fin [3, 4]] (finK Try.prog
 [ResultVar.cell 2 83] (syntaxO x) (AV.sv (syntaxR x 0))) = (P_c_toIntS (Syntax.scopes x) ∧ P_c_toSyntaxS (Syntax.items x) ∧ ObsEq [Ob.arr true 1 (List.map intC (Syntax.scopes x)),
 Ob.arr true 5 (List.map syntaxC (Syntax.items x))] [Ob.arr true 1 (List.map intC (Syntax.scopes x)), Ob.arr true 5 (List.map syntaxC (Syntax.items x))] ∧ AV.sv (SV.agg [vI
 (Syntax.kind x), vI (Syntax.number x), vS (Syntax.text x), AC.ref 0, AC.ref 1]) = AV.sv (SV.agg [vI (Syntax.kind x), vI (Syntax.number x), vS (Syntax.text x), AC.ref 0, AC.ref
 1])) := by kernel_rfl
theorem c_toSyntax_s (x : Syntax) (h : wY x ≤ 1048576) (ih : ∀ z ∈ x.items, ∀ (h : wY z ≤ 1048576), P_c_toSyntax z)  : P_c_toSyntax x := by
  refine CallOK.ofRun wide (run_c_toSyntax_s x) Try.call54 Try.func54 rfl rfl rfl ?_
  with_reducible repeat' (first | apply And.intro | exact flatI | exact flatS | exact rowLens | exact ih | (intro; skip) | apply obsN | apply obsC | apply obA | apply obM | apply obB | apply svA | apply tupA | apply lcA | apply lcS | apply svC | apply liC | apply lbC | apply lsC | apply vIc | apply vBc | apply vSc | apply vLc | apply mapC | apply c_toIntS | apply c_toSyntaxS | apply ih)
  all_goals (try simp only [std] at *)
  all_goals (try (first | with_reducible rfl | omega | assumption | (refine (decide_eq_true ?_).symm; assumption) | (refine (decide_eq_false ?_).symm; assumption) | (refine rowGet ?_; (first | omega | (simp only [std]; omega) | grind)) | (refine getC ?_ rfl; (first | omega | (simp only [std]; omega) | grind)) | (refine fill_step ?_ ?_; (first | omega | (simp only [std]; omega) | grind); (first | rfl | exact (Row.eq _).trans rfl)) | (refine fill_init ?_; (first | rfl | exact (Row.eq _).trans rfl)) | grind [wY_eq, wS, snocI, snocS, rowSnoc]))
theorem c_toSyntax (x : Syntax) : ∀ (h : wY x ≤ 1048576), P_c_toSyntax x := Syntax.ind (P := fun x => ∀ (h : wY x ≤ 1048576), P_c_toSyntax x) (fun x ih h => c_toSyntax_s x h ih) x
end Go.Proofs.Ytehpjofddjmbpaa
end
section
namespace Go.Proofs.Ytehpjofddjmbpaa
open Go Go.Proofs.Ytehpjofddjmbpaa.Ab
set_option linter.unusedVariables false
set_option linter.unusedSimpArgs false
set_option maxHeartbeats 4000000
abbrev P_c_eqIntS (A : List Int) (B : List Int) : Prop := CallOK Try.prog 28 [] [ll (A.map intC), ll (B.map intC)] [] (.sv (lb (decide (A = B))))
def Tc_eqIntSLa (A : List Int) (B : List Int) (x0 : SV) : St := St.mk (regsOf 26 [(0, AV.sv (ll (List.map intC A))), (1, AV.sv (ll (List.map intC B))), (5, AV.sv x0)]) [] 0 
def Lc_eqIntSLa (A : List Int) (B : List Int) (k : Nat) : St := Tc_eqIntSLa A B (li (↑k : Int)) 
def Ic_eqIntSLa (A : List Int) (B : List Int) : Nat → St → Prop := Head (Lc_eqIntSLa A B) (fun k => k ≤ List.length A ∧ List.length A ≤ 9223372036854775807 ∧ List.length A =
 List.length B ∧ List.take k A = List.take k B) fun k => List.length A - k 
def W0c_eqIntSLa (A : List Int) (B : List Int) : St := St.mk (regsOf 26 []) [] 0 
def W1c_eqIntSLa (A : List Int) (B : List Int) (x0 : SV) : St := St.mk (regsOf 26 [(4, AV.sv x0)]) [] 0 
def Yc_eqIntSLa (A : List Int) (B : List Int) : List (Prop × AEx × St) := [(A = B, AEx.exit 0, W0c_eqIntSLa A B), (A ≠ B, AEx.ret, W1c_eqIntSLa A B (lb false))]
theorem Hc_eqIntSLa {A : List Int} {B : List Int} {k : Nat} {m : Nat} (h : (fun k => k ≤ List.length A ∧ List.length A ≤ 9223372036854775807 ∧ List.length A = List.length B ∧
 List.take k A = List.take k B) k) (hm : (fun k => List.length A - k) k = m) : Ic_eqIntSLa A B m (Lc_eqIntSLa A B k) := hm ▸ Head.mk h
theorem Ec_eqIntSLa {A : List Int} {B : List Int} {k : Nat} {x0 : SV} (h0 : x0 = (li (↑k : Int))) : Tc_eqIntSLa A B x0 = Lc_eqIntSLa A B k := by
  rw [h0]
  rfl
theorem EW1c_eqIntSLa {A : List Int} {B : List Int} {x0 y0 : SV} (h0 : x0 = y0) : W1c_eqIntSLa A B x0 = W1c_eqIntSLa A B y0 := by rw [h0]
theorem run_c_eqIntSLa (A : List Int) (B : List Int) (k : Nat) : aexec Try.prog (loopAt Try.f28 0) (Lc_eqIntSLa A B k) [Orc.br [Orc.draw [], Orc.cells (intC (List.getD A k
 default)), Orc.cells (intC (List.getD B k default)), Orc.br [Orc.ghost (Ghost.sel [] [4]), Orc.out 1] [Orc.ghost (Ghost.sel [] [0, 1, 5]), Orc.goto (List.length A - (k + 1))
 (Lc_eqIntSLa A B (k + 1))]] [Orc.ghost (Ghost.sel [] []), Orc.out 0]] (loopK (Ic_eqIntSLa A B) (Yc_eqIntSLa A B) (List.length A - k)) = (List.length (List.map intC A) ≤
 9223372036854775807 → (decide ((↑k : Int) < (↑(List.length (List.map intC A)) : Int)) = true → (0 ≤ (↑k : Int) ∧ (List.map intC A)[Int.toNat (↑k : Int)]? = some [cI (List.getD A k
 0)]) ∧ (0 ≤ (↑k : Int) ∧ (List.map intC B)[Int.toNat (↑k : Int)]? = some [cI (List.getD B k 0)]) ∧ (decide (List.getD A k (0 : Int) ≠ List.getD B k 0) = true → A ≠ B ∧
 W1c_eqIntSLa A B (lb false) = W1c_eqIntSLa A B (lb false)) ∧ (decide (List.getD A k (0 : Int) ≠ List.getD B k 0) = false → rng IntKind.i64 ((↑k : Int) + 1) ∧ List.length A - (k +
 1) < List.length A - k ∧ Tc_eqIntSLa A B (li ((↑k : Int) + 1)) = Lc_eqIntSLa A B (k + 1) ∧ Ic_eqIntSLa A B (List.length A - (k + 1)) (Lc_eqIntSLa A B (k + 1)))) ∧ (decide ((↑k :
 Int) < (↑(List.length (List.map intC A)) : Int)) = false → A = B ∧ W0c_eqIntSLa A B = W0c_eqIntSLa A B)) := by kernel_rfl
theorem Sc_eqIntSLa (A : List Int) (B : List Int)  : LoopSem Try.prog (loopAt Try.f28 0) (Ic_eqIntSLa A B) (Yc_eqIntSLa A B) := by
  refine LoopSem.ofHead wide fun k h => ⟨_, _, run_c_eqIntSLa A B k, ?_⟩
  with_reducible repeat' (first | apply And.intro | exact flatI | exact flatS | exact rowLens | (intro; skip) | apply obsN | apply obsC | apply obA | apply obM | apply obB | apply svA | apply tupA | apply lcA | apply lcS | apply svC | apply liC | apply lbC | apply lsC | apply vIc | apply vBc | apply vSc | apply vLc | apply mapC | apply Hc_eqIntSLa | apply Ec_eqIntSLa | apply EW1c_eqIntSLa)
  all_goals (try simp only [std] at *)
  all_goals (try (first | with_reducible rfl | omega | assumption | (refine (decide_eq_true ?_).symm; assumption) | (refine (decide_eq_false ?_).symm; assumption) | (refine rowGet ?_; (first | omega | (simp only [std]; omega) | grind)) | (refine getC ?_ rfl; (first | omega | (simp only [std]; omega) | grind)) | (refine fill_step ?_ ?_; (first | omega | (simp only [std]; omega) | grind); (first | rfl | exact (Row.eq _).trans rfl)) | (refine fill_init ?_; (first | rfl | exact (Row.eq _).trans rfl)) | grind [take_eq, snocI, snocS, rowSnoc]))
theorem run_c_eqIntS (A : List Int) (B : List Int) : aexec Try.prog (Option.getD (Func.body Try.f28) Code.skip) (entry [] [ll (List.map intC A), ll (List.map intC B)] 26) [Orc.br
 [Orc.fin []] [Orc.ghost (Ghost.sel [] [0, 1, 5]), Orc.loop (List.length A - 0) (Lc_eqIntSLa A B 0) (Ic_eqIntSLa A B) [(A = B, AEx.exit 0, W0c_eqIntSLa A B, [Orc.fin []]), (A ≠ B,
 AEx.ret, W1c_eqIntSLa A B (lb false), [Orc.fin []])]]] (finK Try.prog [ResultVar.tmp 4] [] (AV.sv (lb (decide (A = B))))) = (List.length (List.map intC A) ≤ 9223372036854775807 →
 List.length (List.map intC B) ≤ 9223372036854775807 → (decide ((↑(List.length (List.map intC A)) : Int) ≠ (↑(List.length (List.map intC B)) : Int)) = true → ObsEq [] [] ∧ AV.sv
 (lb false) = AV.sv (lb (decide (A = B)))) ∧ (decide ((↑(List.length (List.map intC A)) : Int) ≠ (↑(List.length (List.map intC B)) : Int)) = false → Tc_eqIntSLa A B (li 0) =
 Lc_eqIntSLa A B 0 ∧ Ic_eqIntSLa A B (List.length A - 0) (Lc_eqIntSLa A B 0) ∧ LoopSem Try.prog (loopAt Try.f28 0) (Ic_eqIntSLa A B) (Yc_eqIntSLa A B) ∧ (A = B → ObsEq [] [] ∧
 AV.sv (lb true) = AV.sv (lb (decide (A = B)))) ∧ ((A = B → False) → ObsEq [] [] ∧ AV.sv (lb false) = AV.sv (lb (decide (A = B)))) ∧ True)) := by kernel_rfl
theorem c_eqIntS (A B : List Int)  : P_c_eqIntS A B := by
  refine CallOK.ofRun wide (run_c_eqIntS A B) Try.call28 Try.func28 rfl rfl rfl ?_
  with_reducible repeat' (first | apply And.intro | exact flatI | exact flatS | exact rowLens | (intro; skip) | apply obsN | apply obsC | apply obA | apply obM | apply obB | apply svA | apply tupA | apply lcA | apply lcS | apply svC | apply liC | apply lbC | apply lsC | apply vIc | apply vBc | apply vSc | apply vLc | apply mapC | apply Hc_eqIntSLa | apply Ec_eqIntSLa | apply Sc_eqIntSLa | apply EW1c_eqIntSLa)
  all_goals (try simp only [std] at *)
  all_goals (try (first | with_reducible rfl | omega | assumption | (refine (decide_eq_true ?_).symm; assumption) | (refine (decide_eq_false ?_).symm; assumption) | (refine rowGet ?_; (first | omega | (simp only [std]; omega) | grind)) | (refine getC ?_ rfl; (first | omega | (simp only [std]; omega) | grind)) | (refine fill_step ?_ ?_; (first | omega | (simp only [std]; omega) | grind); (first | rfl | exact (Row.eq _).trans rfl)) | (refine fill_init ?_; (first | rfl | exact (Row.eq _).trans rfl)) | grind [snocI, snocS, rowSnoc]))
abbrev P_c_eqSyntaxS (A : List Syntax) (B : List Syntax) : Prop := CallOK Try.prog 88 [] [ll (A.map syntaxC), ll (B.map syntaxC)] [] (.sv (lb (decide (A = B))))
abbrev P_c_eqSyntax (x : Syntax) (y : Syntax) : Prop := CallOK Try.prog 57 [] [syntaxA x, syntaxA y] [] (.sv (lb (decide (x = y))))
def Tc_eqSyntaxSLa (A : List Syntax) (B : List Syntax) (x0 : SV) : St := St.mk (regsOf 27 [(0, AV.sv (ll (List.map syntaxC A))), (1, AV.sv (ll (List.map syntaxC B))), (5, AV.sv
 x0)]) [] 0 
def Lc_eqSyntaxSLa (A : List Syntax) (B : List Syntax) (k : Nat) : St := Tc_eqSyntaxSLa A B (li (↑k : Int)) 
def Ic_eqSyntaxSLa (A : List Syntax) (B : List Syntax) : Nat → St → Prop := Head (Lc_eqSyntaxSLa A B) (fun k => k ≤ List.length A ∧ List.length A ≤ 9223372036854775807 ∧
 List.length A = List.length B ∧ List.take k A = List.take k B) fun k => List.length A - k 
def W0c_eqSyntaxSLa (A : List Syntax) (B : List Syntax) : St := St.mk (regsOf 27 []) [] 0 
def W1c_eqSyntaxSLa (A : List Syntax) (B : List Syntax) (x0 : SV) : St := St.mk (regsOf 27 [(4, AV.sv x0)]) [] 0 
def Yc_eqSyntaxSLa (A : List Syntax) (B : List Syntax) : List (Prop × AEx × St) := [(A = B, AEx.exit 0, W0c_eqSyntaxSLa A B), (A ≠ B, AEx.ret, W1c_eqSyntaxSLa A B (lb false))]
theorem Hc_eqSyntaxSLa {A : List Syntax} {B : List Syntax} {k : Nat} {m : Nat} (h : (fun k => k ≤ List.length A ∧ List.length A ≤ 9223372036854775807 ∧ List.length A = List.length
 B ∧ List.take k A = List.take k B) k) (hm : (fun k => List.length A - k) k = m) : Ic_eqSyntaxSLa A B m (Lc_eqSyntaxSLa A B k) := hm ▸ Head.mk h
theorem Ec_eqSyntaxSLa {A : List Syntax} {B : List Syntax} {k : Nat} {x0 : SV} (h0 : x0 = (li (↑k : Int))) : Tc_eqSyntaxSLa A B x0 = Lc_eqSyntaxSLa A B k := by
  rw [h0]
  rfl
theorem EW1c_eqSyntaxSLa {A : List Syntax} {B : List Syntax} {x0 y0 : SV} (h0 : x0 = y0) : W1c_eqSyntaxSLa A B x0 = W1c_eqSyntaxSLa A B y0 := by rw [h0]
theorem run_c_eqSyntaxSLa (A : List Syntax) (B : List Syntax) (k : Nat) : aexec Try.prog (loopAt Try.f88 0) (Lc_eqSyntaxSLa A B k) [Orc.br [Orc.draw [], Orc.cells (syntaxF
 (List.getD A k default)), Orc.cells (syntaxF (List.getD B k default)), Orc.call [Mode.rd, Mode.rd] [] (AV.sv (lb (decide (List.getD A k default = List.getD B k default)))), Orc.br
 [Orc.ghost (Ghost.sel [] [4]), Orc.out 1] [Orc.ghost (Ghost.sel [] [0, 1, 5]), Orc.goto (List.length A - (k + 1)) (Lc_eqSyntaxSLa A B (k + 1))]] [Orc.ghost (Ghost.sel [] []),
 Orc.out 0]] (loopK (Ic_eqSyntaxSLa A B) (Yc_eqSyntaxSLa A B) (List.length A - k)) = (List.length (List.map syntaxC A) ≤ 9223372036854775807 → (decide ((↑k : Int) < (↑(List.length
 (List.map syntaxC A)) : Int)) = true → (0 ≤ (↑k : Int) ∧ (List.map syntaxC A)[Int.toNat (↑k : Int)]? = some (syntaxF (List.getD A k default))) ∧ (0 ≤ (↑k : Int) ∧ (List.map
 syntaxC B)[Int.toNat (↑k : Int)]? = some (syntaxF (List.getD B k default))) ∧ P_c_eqSyntax (List.getD A k default) (List.getD B k default) ∧ ((!decide (List.getD A k default =
 List.getD B k default)) = true → A ≠ B ∧ W1c_eqSyntaxSLa A B (lb false) = W1c_eqSyntaxSLa A B (lb false)) ∧ ((!decide (List.getD A k default = List.getD B k default)) = false →
 rng IntKind.i64 ((↑k : Int) + 1) ∧ List.length A - (k + 1) < List.length A - k ∧ Tc_eqSyntaxSLa A B (li ((↑k : Int) + 1)) = Lc_eqSyntaxSLa A B (k + 1) ∧ Ic_eqSyntaxSLa A B
 (List.length A - (k + 1)) (Lc_eqSyntaxSLa A B (k + 1)))) ∧ (decide ((↑k : Int) < (↑(List.length (List.map syntaxC A)) : Int)) = false → A = B ∧ W0c_eqSyntaxSLa A B =
 W0c_eqSyntaxSLa A B)) := by kernel_rfl
theorem Sc_eqSyntaxSLa (A : List Syntax) (B : List Syntax) (ih : ∀ (x : Syntax), x ∈ A → ∀ (y : Syntax), P_c_eqSyntax x y)  : LoopSem Try.prog (loopAt Try.f88 0) (Ic_eqSyntaxSLa A
 B) (Yc_eqSyntaxSLa A B) := by
  refine LoopSem.ofHead wide fun k h => ⟨_, _, run_c_eqSyntaxSLa A B k, ?_⟩
  with_reducible repeat' (first | apply And.intro | exact flatI | exact flatS | exact rowLens | exact ih | (intro; skip) | apply obsN | apply obsC | apply obA | apply obM | apply obB | apply svA | apply tupA | apply lcA | apply lcS | apply svC | apply liC | apply lbC | apply lsC | apply vIc | apply vBc | apply vSc | apply vLc | apply mapC | apply Hc_eqSyntaxSLa | apply Ec_eqSyntaxSLa | apply EW1c_eqSyntaxSLa | apply ih)
  all_goals (try simp only [std] at *)
  all_goals (try (first | with_reducible rfl | omega | assumption | (refine (decide_eq_true ?_).symm; assumption) | (refine (decide_eq_false ?_).symm; assumption) | (refine rowGet ?_; (first | omega | (simp only [std]; omega) | grind)) | (refine getC ?_ rfl; (first | omega | (simp only [std]; omega) | grind)) | (refine fill_step ?_ ?_; (first | omega | (simp only [std]; omega) | grind); (first | rfl | exact (Row.eq _).trans rfl)) | (refine fill_init ?_; (first | rfl | exact (Row.eq _).trans rfl)) | grind [take_eq, getD_mem', snocI, snocS, rowSnoc]))
theorem run_c_eqSyntaxS (A : List Syntax) (B : List Syntax) : aexec Try.prog (Option.getD (Func.body Try.f88) Code.skip) (entry [] [ll (List.map syntaxC A), ll (List.map syntaxC
 B)] 27) [Orc.br [Orc.fin []] [Orc.ghost (Ghost.sel [] [0, 1, 5]), Orc.loop (List.length A - 0) (Lc_eqSyntaxSLa A B 0) (Ic_eqSyntaxSLa A B) [(A = B, AEx.exit 0, W0c_eqSyntaxSLa A
 B, [Orc.fin []]), (A ≠ B, AEx.ret, W1c_eqSyntaxSLa A B (lb false), [Orc.fin []])]]] (finK Try.prog [ResultVar.tmp 4] [] (AV.sv (lb (decide (A = B))))) = (List.length (List.map
 syntaxC A) ≤ 9223372036854775807 → List.length (List.map syntaxC B) ≤ 9223372036854775807 → (decide ((↑(List.length (List.map syntaxC A)) : Int) ≠ (↑(List.length (List.map syntaxC
 B)) : Int)) = true → ObsEq [] [] ∧ AV.sv (lb false) = AV.sv (lb (decide (A = B)))) ∧ (decide ((↑(List.length (List.map syntaxC A)) : Int) ≠ (↑(List.length (List.map syntaxC B)) :
 Int)) = false → Tc_eqSyntaxSLa A B (li 0) = Lc_eqSyntaxSLa A B 0 ∧ Ic_eqSyntaxSLa A B (List.length A - 0) (Lc_eqSyntaxSLa A B 0) ∧ LoopSem Try.prog (loopAt Try.f88 0)
 (Ic_eqSyntaxSLa A B) (Yc_eqSyntaxSLa A B) ∧ (A = B → ObsEq [] [] ∧ AV.sv (lb true) = AV.sv (lb (decide (A = B)))) ∧ ((A = B → False) → ObsEq [] [] ∧ AV.sv (lb false) = AV.sv (lb
 (decide (A = B)))) ∧ True)) := by kernel_rfl
theorem c_eqSyntaxS (A B : List Syntax) (ih : ∀ x ∈ A, ∀ (y : Syntax), P_c_eqSyntax x y)  : P_c_eqSyntaxS A B := by
  refine CallOK.ofRun wide (run_c_eqSyntaxS A B) Try.call88 Try.func88 rfl rfl rfl ?_
  with_reducible repeat' (first | apply And.intro | exact flatI | exact flatS | exact rowLens | exact ih | (intro; skip) | apply obsN | apply obsC | apply obA | apply obM | apply obB | apply svA | apply tupA | apply lcA | apply lcS | apply svC | apply liC | apply lbC | apply lsC | apply vIc | apply vBc | apply vSc | apply vLc | apply mapC | apply Hc_eqSyntaxSLa | apply Ec_eqSyntaxSLa | apply Sc_eqSyntaxSLa | apply EW1c_eqSyntaxSLa)
  all_goals (try simp only [std] at *)
  all_goals (try (first | with_reducible rfl | omega | assumption | (refine (decide_eq_true ?_).symm; assumption) | (refine (decide_eq_false ?_).symm; assumption) | (refine rowGet ?_; (first | omega | (simp only [std]; omega) | grind)) | (refine getC ?_ rfl; (first | omega | (simp only [std]; omega) | grind)) | (refine fill_step ?_ ?_; (first | omega | (simp only [std]; omega) | grind); (first | rfl | exact (Row.eq _).trans rfl)) | (refine fill_init ?_; (first | rfl | exact (Row.eq _).trans rfl)) | grind [snocI, snocS, rowSnoc]))
theorem run_c_eqSyntax_s (x : Syntax) (y : Syntax) : aexec Try.prog (Option.getD (Func.body Try.f57) Code.skip) (entry [] [syntaxA x, syntaxA y] 32) [Orc.br [Orc.fin []] [Orc.br
 [Orc.fin []] [Orc.br [Orc.fin []] [Orc.call [Mode.rd, Mode.rd] [] (AV.sv (lb (decide (Syntax.scopes x = Syntax.scopes y)))), Orc.br [Orc.fin []] [Orc.call [Mode.rd, Mode.rd] []
 (AV.sv (lb (decide (Syntax.items x = Syntax.items y)))), Orc.br [Orc.fin []] [Orc.fin []]]]]]] (finK Try.prog [ResultVar.tmp 4] [] (AV.sv (lb (decide (x = y))))) = ((decide
 (Syntax.kind x ≠ Syntax.kind y) = true → ObsEq [] [] ∧ AV.sv (lb false) = AV.sv (lb (decide (x = y)))) ∧ (decide (Syntax.kind x ≠ Syntax.kind y) = false → (decide (Syntax.number x
 ≠ Syntax.number y) = true → ObsEq [] [] ∧ AV.sv (lb false) = AV.sv (lb (decide (x = y)))) ∧ (decide (Syntax.number x ≠ Syntax.number y) = false → (decide (Array.toList
 (ByteArray.data (Syntax.text x)) ≠ Array.toList (ByteArray.data (Syntax.text y))) = true → ObsEq [] [] ∧ AV.sv (lb false) = AV.sv (lb (decide (x = y)))) ∧ (decide (Array.toList
 (ByteArray.data (Syntax.text x)) ≠ Array.toList (ByteArray.data (Syntax.text y))) = false → P_c_eqIntS (Syntax.scopes x) (Syntax.scopes y) ∧ ((!decide (Syntax.scopes x =
 Syntax.scopes y)) = true → ObsEq [] [] ∧ AV.sv (lb false) = AV.sv (lb (decide (x = y)))) ∧ ((!decide (Syntax.scopes x = Syntax.scopes y)) = false → P_c_eqSyntaxS (Syntax.items x)
 (Syntax.items y) ∧ ((!decide (Syntax.items x = Syntax.items y)) = true → ObsEq [] [] ∧ AV.sv (lb false) = AV.sv (lb (decide (x = y)))) ∧ ((!decide (Syntax.items x = Syntax.items
 y)) = false → ObsEq [] [] ∧ AV.sv (lb true) = AV.sv (lb (decide (x = y))))))))) := by kernel_rfl
theorem c_eqSyntax_s (x y : Syntax) (ih : ∀ z ∈ x.items, ∀ (y : Syntax), P_c_eqSyntax z y)  : P_c_eqSyntax x y := by
  refine CallOK.ofRun wide (run_c_eqSyntax_s x y) Try.call57 Try.func57 rfl rfl rfl ?_
  simp only [syntaxExt]
  with_reducible repeat' (first | apply And.intro | exact flatI | exact flatS | exact rowLens | exact ih | (intro; skip) | apply obsN | apply obsC | apply obA | apply obM | apply obB | apply svA | apply tupA | apply lcA | apply lcS | apply svC | apply liC | apply lbC | apply lsC | apply vIc | apply vBc | apply vSc | apply vLc | apply mapC | apply c_eqIntS | apply c_eqSyntaxS | apply ih)
  all_goals (try simp only [std] at *)
  all_goals (try (first | with_reducible rfl | omega | assumption | (refine (decide_eq_true ?_).symm; assumption) | (refine (decide_eq_false ?_).symm; assumption) | (refine rowGet ?_; (first | omega | (simp only [std]; omega) | grind)) | (refine getC ?_ rfl; (first | omega | (simp only [std]; omega) | grind)) | (refine fill_step ?_ ?_; (first | omega | (simp only [std]; omega) | grind); (first | rfl | exact (Row.eq _).trans rfl)) | (refine fill_init ?_; (first | rfl | exact (Row.eq _).trans rfl)) | grind [bytes_ext, snocI, snocS, rowSnoc]))
theorem c_eqSyntax (x : Syntax) : ∀ (y : Syntax), P_c_eqSyntax x y := Syntax.ind (P := fun x => ∀ (y : Syntax), P_c_eqSyntax x y) (fun x ih y => c_eqSyntax_s x y ih) x
abbrev P_c_eqCaptureS (A : List Capture) (B : List Capture) : Prop := CallOK Try.prog 56 [] [ll (A.map captureC), ll (B.map captureC)] [] (.sv (lb (decide (A = B))))
abbrev P_c_eqCapture (x : Capture) (y : Capture) : Prop := CallOK Try.prog 158 [] [captureA x, captureA y] [] (.sv (lb (decide (x = y))))
def Tc_eqCaptureSLa (A : List Capture) (B : List Capture) (x0 : SV) : St := St.mk (regsOf 27 [(0, AV.sv (ll (List.map captureC A))), (1, AV.sv (ll (List.map captureC B))), (5,
 AV.sv x0)]) [] 0 
def Lc_eqCaptureSLa (A : List Capture) (B : List Capture) (k : Nat) : St := Tc_eqCaptureSLa A B (li (↑k : Int)) 
def Ic_eqCaptureSLa (A : List Capture) (B : List Capture) : Nat → St → Prop := Head (Lc_eqCaptureSLa A B) (fun k => k ≤ List.length A ∧ List.length A ≤ 9223372036854775807 ∧
 List.length A = List.length B ∧ List.take k A = List.take k B) fun k => List.length A - k 
def W0c_eqCaptureSLa (A : List Capture) (B : List Capture) : St := St.mk (regsOf 27 []) [] 0 
def W1c_eqCaptureSLa (A : List Capture) (B : List Capture) (x0 : SV) : St := St.mk (regsOf 27 [(4, AV.sv x0)]) [] 0 
def Yc_eqCaptureSLa (A : List Capture) (B : List Capture) : List (Prop × AEx × St) := [(A = B, AEx.exit 0, W0c_eqCaptureSLa A B), (A ≠ B, AEx.ret, W1c_eqCaptureSLa A B (lb false))]
theorem Hc_eqCaptureSLa {A : List Capture} {B : List Capture} {k : Nat} {m : Nat} (h : (fun k => k ≤ List.length A ∧ List.length A ≤ 9223372036854775807 ∧ List.length A =
 List.length B ∧ List.take k A = List.take k B) k) (hm : (fun k => List.length A - k) k = m) : Ic_eqCaptureSLa A B m (Lc_eqCaptureSLa A B k) := hm ▸ Head.mk h
theorem Ec_eqCaptureSLa {A : List Capture} {B : List Capture} {k : Nat} {x0 : SV} (h0 : x0 = (li (↑k : Int))) : Tc_eqCaptureSLa A B x0 = Lc_eqCaptureSLa A B k := by
  rw [h0]
  rfl
theorem EW1c_eqCaptureSLa {A : List Capture} {B : List Capture} {x0 y0 : SV} (h0 : x0 = y0) : W1c_eqCaptureSLa A B x0 = W1c_eqCaptureSLa A B y0 := by rw [h0]
theorem run_c_eqCaptureSLa (A : List Capture) (B : List Capture) (k : Nat) : aexec Try.prog (loopAt Try.f56 0) (Lc_eqCaptureSLa A B k) [Orc.br [Orc.draw [], Orc.cells (captureF
 (List.getD A k default)), Orc.cells (captureF (List.getD B k default)), Orc.call [Mode.rd, Mode.rd] [] (AV.sv (lb (decide (List.getD A k default = List.getD B k default)))),
 Orc.br [Orc.ghost (Ghost.sel [] [4]), Orc.out 1] [Orc.ghost (Ghost.sel [] [0, 1, 5]), Orc.goto (List.length A - (k + 1)) (Lc_eqCaptureSLa A B (k + 1))]] [Orc.ghost (Ghost.sel []
 []), Orc.out 0]] (loopK (Ic_eqCaptureSLa A B) (Yc_eqCaptureSLa A B) (List.length A - k)) = (List.length (List.map captureC A) ≤ 9223372036854775807 → (decide ((↑k : Int) <
 (↑(List.length (List.map captureC A)) : Int)) = true → (0 ≤ (↑k : Int) ∧ (List.map captureC A)[Int.toNat (↑k : Int)]? = some (captureF (List.getD A k default))) ∧ (0 ≤ (↑k : Int)
 ∧ (List.map captureC B)[Int.toNat (↑k : Int)]? = some (captureF (List.getD B k default))) ∧ P_c_eqCapture (List.getD A k default) (List.getD B k default) ∧ ((!decide (List.getD A
 k default = List.getD B k default)) = true → A ≠ B ∧ W1c_eqCaptureSLa A B (lb false) = W1c_eqCaptureSLa A B (lb false)) ∧ ((!decide (List.getD A k default = List.getD B k
 default)) = false → rng IntKind.i64 ((↑k : Int) + 1) ∧ List.length A - (k + 1) < List.length A - k ∧ Tc_eqCaptureSLa A B (li ((↑k : Int) + 1)) = Lc_eqCaptureSLa A B (k + 1) ∧
 Ic_eqCaptureSLa A B (List.length A - (k + 1)) (Lc_eqCaptureSLa A B (k + 1)))) ∧ (decide ((↑k : Int) < (↑(List.length (List.map captureC A)) : Int)) = false → A = B ∧
 W0c_eqCaptureSLa A B = W0c_eqCaptureSLa A B)) := by kernel_rfl
theorem Sc_eqCaptureSLa (A : List Capture) (B : List Capture) (ih : ∀ (x : Capture), x ∈ A → ∀ (y : Capture), P_c_eqCapture x y)  : LoopSem Try.prog (loopAt Try.f56 0)
 (Ic_eqCaptureSLa A B) (Yc_eqCaptureSLa A B) := by
  refine LoopSem.ofHead wide fun k h => ⟨_, _, run_c_eqCaptureSLa A B k, ?_⟩
  with_reducible repeat' (first | apply And.intro | exact flatI | exact flatS | exact rowLens | exact ih | (intro; skip) | apply obsN | apply obsC | apply obA | apply obM | apply obB | apply svA | apply tupA | apply lcA | apply lcS | apply svC | apply liC | apply lbC | apply lsC | apply vIc | apply vBc | apply vSc | apply vLc | apply mapC | apply Hc_eqCaptureSLa | apply Ec_eqCaptureSLa | apply EW1c_eqCaptureSLa | apply ih)
  all_goals (try simp only [std] at *)
  all_goals (try (first | with_reducible rfl | omega | assumption | (refine (decide_eq_true ?_).symm; assumption) | (refine (decide_eq_false ?_).symm; assumption) | (refine rowGet ?_; (first | omega | (simp only [std]; omega) | grind)) | (refine getC ?_ rfl; (first | omega | (simp only [std]; omega) | grind)) | (refine fill_step ?_ ?_; (first | omega | (simp only [std]; omega) | grind); (first | rfl | exact (Row.eq _).trans rfl)) | (refine fill_init ?_; (first | rfl | exact (Row.eq _).trans rfl)) | grind [take_eq, getD_mem', snocI, snocS, rowSnoc]))
theorem run_c_eqCaptureS (A : List Capture) (B : List Capture) : aexec Try.prog (Option.getD (Func.body Try.f56) Code.skip) (entry [] [ll (List.map captureC A), ll (List.map
 captureC B)] 27) [Orc.br [Orc.fin []] [Orc.ghost (Ghost.sel [] [0, 1, 5]), Orc.loop (List.length A - 0) (Lc_eqCaptureSLa A B 0) (Ic_eqCaptureSLa A B) [(A = B, AEx.exit 0,
 W0c_eqCaptureSLa A B, [Orc.fin []]), (A ≠ B, AEx.ret, W1c_eqCaptureSLa A B (lb false), [Orc.fin []])]]] (finK Try.prog [ResultVar.tmp 4] [] (AV.sv (lb (decide (A = B))))) =
 (List.length (List.map captureC A) ≤ 9223372036854775807 → List.length (List.map captureC B) ≤ 9223372036854775807 → (decide ((↑(List.length (List.map captureC A)) : Int) ≠
 (↑(List.length (List.map captureC B)) : Int)) = true → ObsEq [] [] ∧ AV.sv (lb false) = AV.sv (lb (decide (A = B)))) ∧ (decide ((↑(List.length (List.map captureC A)) : Int) ≠
 (↑(List.length (List.map captureC B)) : Int)) = false → Tc_eqCaptureSLa A B (li 0) = Lc_eqCaptureSLa A B 0 ∧ Ic_eqCaptureSLa A B (List.length A - 0) (Lc_eqCaptureSLa A B 0) ∧
 LoopSem Try.prog (loopAt Try.f56 0) (Ic_eqCaptureSLa A B) (Yc_eqCaptureSLa A B) ∧ (A = B → ObsEq [] [] ∧ AV.sv (lb true) = AV.sv (lb (decide (A = B)))) ∧ ((A = B → False) → ObsEq
 [] [] ∧ AV.sv (lb false) = AV.sv (lb (decide (A = B)))) ∧ True)) := by kernel_rfl
theorem c_eqCaptureS (A B : List Capture) (ih : ∀ x ∈ A, ∀ (y : Capture), P_c_eqCapture x y)  : P_c_eqCaptureS A B := by
  refine CallOK.ofRun wide (run_c_eqCaptureS A B) Try.call56 Try.func56 rfl rfl rfl ?_
  with_reducible repeat' (first | apply And.intro | exact flatI | exact flatS | exact rowLens | exact ih | (intro; skip) | apply obsN | apply obsC | apply obA | apply obM | apply obB | apply svA | apply tupA | apply lcA | apply lcS | apply svC | apply liC | apply lbC | apply lsC | apply vIc | apply vBc | apply vSc | apply vLc | apply mapC | apply Hc_eqCaptureSLa | apply Ec_eqCaptureSLa | apply Sc_eqCaptureSLa | apply EW1c_eqCaptureSLa)
  all_goals (try simp only [std] at *)
  all_goals (try (first | with_reducible rfl | omega | assumption | (refine (decide_eq_true ?_).symm; assumption) | (refine (decide_eq_false ?_).symm; assumption) | (refine rowGet ?_; (first | omega | (simp only [std]; omega) | grind)) | (refine getC ?_ rfl; (first | omega | (simp only [std]; omega) | grind)) | (refine fill_step ?_ ?_; (first | omega | (simp only [std]; omega) | grind); (first | rfl | exact (Row.eq _).trans rfl)) | (refine fill_init ?_; (first | rfl | exact (Row.eq _).trans rfl)) | grind [snocI, snocS, rowSnoc]))
theorem run_c_eqCapture_s (x : Capture) (y : Capture) : aexec Try.prog (Option.getD (Func.body Try.f158) Code.skip) (entry [] [captureA x, captureA y] 28) [Orc.call [Mode.rd,
 Mode.rd] [] (AV.sv (lb (decide (Capture.name x = Capture.name y)))), Orc.br [Orc.fin []] [Orc.br [Orc.fin []] [Orc.call [Mode.rd, Mode.rd] [] (AV.sv (lb (decide (Capture.form x =
 Capture.form y)))), Orc.br [Orc.fin []] [Orc.call [Mode.rd, Mode.rd] [] (AV.sv (lb (decide (Capture.each x = Capture.each y)))), Orc.br [Orc.fin []] [Orc.fin []]]]]] (finK
 Try.prog [ResultVar.tmp 4] [] (AV.sv (lb (decide (x = y))))) = (P_c_eqSyntax (Capture.name x) (Capture.name y) ∧ ((!decide (Capture.name x = Capture.name y)) = true → ObsEq [] []
 ∧ AV.sv (lb false) = AV.sv (lb (decide (x = y)))) ∧ ((!decide (Capture.name x = Capture.name y)) = false → (decide (Capture.depth x ≠ Capture.depth y) = true → ObsEq [] [] ∧ AV.sv
 (lb false) = AV.sv (lb (decide (x = y)))) ∧ (decide (Capture.depth x ≠ Capture.depth y) = false → P_c_eqSyntax (Capture.form x) (Capture.form y) ∧ ((!decide (Capture.form x =
 Capture.form y)) = true → ObsEq [] [] ∧ AV.sv (lb false) = AV.sv (lb (decide (x = y)))) ∧ ((!decide (Capture.form x = Capture.form y)) = false → P_c_eqCaptureS (Capture.each x)
 (Capture.each y) ∧ ((!decide (Capture.each x = Capture.each y)) = true → ObsEq [] [] ∧ AV.sv (lb false) = AV.sv (lb (decide (x = y)))) ∧ ((!decide (Capture.each x = Capture.each
 y)) = false → ObsEq [] [] ∧ AV.sv (lb true) = AV.sv (lb (decide (x = y)))))))) := by kernel_rfl
theorem c_eqCapture_s (x y : Capture) (ih : ∀ z ∈ x.each, ∀ (y : Capture), P_c_eqCapture z y)  : P_c_eqCapture x y := by
  refine CallOK.ofRun wide (run_c_eqCapture_s x y) Try.call158 Try.func158 rfl rfl rfl ?_
  simp only [captureExt]
  with_reducible repeat' (first | apply And.intro | exact flatI | exact flatS | exact rowLens | exact ih | (intro; skip) | apply obsN | apply obsC | apply obA | apply obM | apply obB | apply svA | apply tupA | apply lcA | apply lcS | apply svC | apply liC | apply lbC | apply lsC | apply vIc | apply vBc | apply vSc | apply vLc | apply mapC | apply c_eqSyntax | apply c_eqCaptureS | apply ih)
  all_goals (try simp only [std] at *)
  all_goals (try (first | with_reducible rfl | omega | assumption | (refine (decide_eq_true ?_).symm; assumption) | (refine (decide_eq_false ?_).symm; assumption) | (refine rowGet ?_; (first | omega | (simp only [std]; omega) | grind)) | (refine getC ?_ rfl; (first | omega | (simp only [std]; omega) | grind)) | (refine fill_step ?_ ?_; (first | omega | (simp only [std]; omega) | grind); (first | rfl | exact (Row.eq _).trans rfl)) | (refine fill_init ?_; (first | rfl | exact (Row.eq _).trans rfl)) | grind [bytes_ext, snocI, snocS, rowSnoc]))
theorem c_eqCapture (x : Capture) : ∀ (y : Capture), P_c_eqCapture x y := Capture.ind (P := fun x => ∀ (y : Capture), P_c_eqCapture x y) (fun x ih y => c_eqCapture_s x y ih) x
end Go.Proofs.Ytehpjofddjmbpaa
end
section
namespace Go.Proofs.Ytehpjofddjmbpaa
open Go Go.Proofs.Ytehpjofddjmbpaa.Ab
set_option linter.unusedVariables false
set_option linter.unusedSimpArgs false
set_option maxHeartbeats 4000000
theorem sumBy_snoc' {α : Type} (f : α → Nat) (l : List α) (x : α) : sumBy f (l ++ [x]) = sumBy f l + f x := by rw [sumBy_append]; simp [sumBy]
theorem wlk_w (f : Syntax → Int → List Capture → Option (List Capture)) : ∀ (l : List Syntax), (∀ x ∈ l, ∀ d o o', f x d o = some o' → sumBy cP o' ≤ sumBy cP o + 80 + 80 * wY x) → ∀ i a d o o', wlk f l i a d o = some o' → sumBy cP o' ≤ sumBy cP o + 80 * l.length + 80 * sumBy wY l
  | [], _, i, a, d, o, o', e => by simp only [wlk, Option.some.injEq] at e; subst e; simp [sumBy]
  | x :: r, h, i, a, d, o, o', e => by
    have ih := wlk_w f r fun y hy => h y (List.mem_cons_of_mem _ hy)
    simp only [wlk] at e
    simp only [sumBy, List.length_cons]
    split at e
    · have := ih _ _ _ _ _ e; omega
    · split at e
      · cases e
      · rename_i o1 h1
        have h2 := ih _ _ _ _ _ e
        have h3 := h x List.mem_cons_self _ _ _ h1
        omega
theorem cP_cap (p : Syntax) (d : Int) : cP (cap1 p d) ≤ 80 + 80 * wY p := by
  have h1 := cP_le (cap1 p d)
  have h2 := wP_eq (cap1 p d)
  have h3 : wY (⟨0, 0, mkS [], [], []⟩ : Syntax) = 0 := rfl
  simp only [cap1, h3, sumBy, List.length_nil] at h2
  simp only [cap1] at h1 ⊢
  omega
theorem vrS_w (Ls : List Syntax) : ∀ (p : Syntax) (d : Int) (o o' : List Capture), vrS Ls p d o = some o' → sumBy cP o' ≤ sumBy cP o + 80 + 80 * wY p := by
  refine Syntax.ind fun p ih d o o' e => ?_
  rw [vrS_eq] at e
  have g := wY_eq p
  have g2 := cP_cap p d
  split at e
  · split at e
    · simp only [Option.some.injEq] at e; subst e; omega
    · split at e
      · cases e
      · simp only [Option.some.injEq] at e; subst e; rw [sumBy_snoc']; omega
  · split at e
    · have := wlk_w (vrS Ls) p.items (fun x hx d o o' h => ih x hx d o o' h) _ _ _ _ _ e; omega
    · cases e
theorem vrS_top (Ls : List Syntax) (p : Syntax) : sumBy cP (if okL Ls = true ∧ isSyn p = true then (vrS Ls p 0 []).getD [] else []) ≤ 80 + 80 * wY p := by
  split
  · cases e : vrS Ls p 0 [] with
    | none => simp [sumBy]
    | some o => have := vrS_w Ls p 0 [] o e; simp only [sumBy] at this; simp only [Option.getD_some]; omega
  · simp [sumBy]
abbrev P_c_LPat (Ls : List Syntax) (p : Syntax) : Prop := CallOK Try.prog 15 [] [ll (Ls.map syntaxC), syntaxA p] [] (.sv (lb true))
abbrev a1_c_LPat (Ls : List Syntax) (p : Syntax) := (if okL Ls = true ∧ isSyn p = true then Option.getD (vrS Ls p 0 []) [] else [])
abbrev a2_c_LPat (Ls : List Syntax) (p : Syntax) := ((a1_c_LPat Ls p) = if okL Ls = true ∧ isSyn p = true then Option.getD (vrS Ls p 0 []) [] else [])
abbrev a3_c_LPat (Ls : List Syntax) (p : Syntax) := (okL Ls && isSyn p && Option.isSome (vrS Ls p 0 []))
abbrev a4_c_LPat (Ls : List Syntax) (p : Syntax) := (1 + (↑(sumBy cP (seqM mkP cP (a1_c_LPat Ls p) 1)) : Int) ≠ 1 + (↑(sumBy cP (a1_c_LPat Ls p)) : Int))
theorem run_c_LPat (Ls : List Syntax) (p : Syntax) : aexec Try.prog (Option.getD (Func.body Try.f15) Code.skip) (entry [] [ll (List.map syntaxC Ls), syntaxA p] 119) [Orc.call
 [Mode.rd, Mode.rd] [] (AV.sv (li (sz (List.length Ls + sumBy wY Ls) 1048576))), Orc.br [Orc.fin []] [Orc.call [Mode.rd, Mode.rd] [] (AV.sv (li (sz (wY p) (sz (List.length Ls +
 sumBy wY Ls) 1048576)))), Orc.br [Orc.fin []] [Orc.draw [], Orc.call [Mode.rd] [Ob.arr true 5 (List.map syntaxC Ls)] (AV.sv (SV.one (AC.ref 0))), Orc.call [Mode.rd] (syntaxO p)
 (AV.sv (syntaxR p 0)), Orc.call [Mode.rd, Mode.rd] [Ob.arr true 12 (List.map captureC (a1_c_LPat Ls p))] (AV.tup [SV.one (AC.ref 0), lb (a3_c_LPat Ls p)]), Orc.call [Mode.rd]
 [Ob.arr true 5 (List.map syntaxC Ls)] (AV.sv (SV.one (AC.ref 0))), Orc.call [Mode.rd] (syntaxO p) (AV.sv (syntaxR p 0)), Orc.call [Mode.rd, Mode.rd] [Ob.arr true 12 (List.map
 captureC (a1_c_LPat Ls p))] (AV.tup [SV.one (AC.ref 0), lb (a3_c_LPat Ls p)]), Orc.call [Mode.rd, Mode.rd] [] (AV.sv (lb (decide (a2_c_LPat Ls p)))), Orc.br [Orc.bool true,
 Orc.fin []] [Orc.br [Orc.fin []] [Orc.call [Mode.rd] [Ob.arr true 5 (List.map syntaxC Ls)] (AV.sv (SV.one (AC.ref 0))), Orc.call [Mode.rd, Mode.rd] [] (AV.sv (lb (decide (Ls =
 Ls)))), Orc.br [Orc.fin []] [Orc.draw [], Orc.call [Mode.rd] (syntaxO p) (AV.sv (syntaxR p 0)), Orc.call [Mode.rd, Mode.rd] [] (AV.sv (lb (decide (p = p)))), Orc.br [Orc.fin []]
 [Orc.call [Mode.own true 5, Mode.rd] [Ob.arr true 5 (List.map syntaxC (seqM mkY cY Ls 1))] (AV.sv (li (1 + (↑(sumBy cY Ls) : Int)))), Orc.call [Mode.agg [none, none, none, some
 (true, 1), some (true, 5)], Mode.rd] [Ob.arr true 1 (List.map intC (seqM mkI cOne (Syntax.scopes p) (1 + (↑(sumBy cY Ls) : Int)))), Ob.arr true 5 (List.map syntaxC (seqM mkY cY
 (Syntax.items p) (1 + (↑(sumBy cY Ls) : Int) + (↑(List.length (Syntax.scopes p)) : Int))))] (AV.sv (li (1 + (↑(sumBy cY Ls) : Int) + (↑(List.length (Syntax.scopes p)) : Int) +
 (↑(sumBy cY (Syntax.items p)) : Int)))), Orc.bool false, Orc.call [Mode.rd, Mode.rd] [] (AV.sv (lb (decide (a2_c_LPat Ls p)))), Orc.br [Orc.bool true, Orc.fin []] [Orc.br [Orc.fin
 []] [Orc.call [Mode.own true 12, Mode.rd] [Ob.arr true 12 (List.map captureC (seqM mkP cP (a1_c_LPat Ls p) 1))] (AV.sv (li (1 + (↑(sumBy cP (a1_c_LPat Ls p)) : Int)))), Orc.call
 [Mode.rd, Mode.rd] [] (AV.sv (li (1 + (↑(sumBy cP (seqM mkP cP (a1_c_LPat Ls p) 1)) : Int)))), Orc.bool false, Orc.br [Orc.fin []] [Orc.draw [], Orc.call [Mode.rd] [Ob.arr true 5
 (List.map syntaxC Ls)] (AV.sv (SV.one (AC.ref 0))), Orc.call [Mode.rd] (syntaxO p) (AV.sv (syntaxR p 0)), Orc.call [Mode.rd, Mode.rd] [Ob.arr true 12 (List.map captureC (a1_c_LPat
 Ls p))] (AV.tup [SV.one (AC.ref 0), lb (a3_c_LPat Ls p)]), Orc.call [Mode.rd, Mode.rd] [] (AV.sv (lb (decide (a2_c_LPat Ls p)))), Orc.br [Orc.bool true, Orc.fin []] [Orc.br
 [Orc.fin []] [Orc.call [Mode.rd, Mode.rd] [] (AV.sv (li (1 + (↑(sumBy cP (seqM mkP cP (a1_c_LPat Ls p) 1)) : Int)))), Orc.bool false, Orc.br [Orc.fin []] [Orc.fin []]]]]]]]]]]]]]
 (finK Try.prog [ResultVar.tmp 4] [] (AV.sv (lb true))) = (P_c_szSyntaxS Ls 1048576 ∧ (decide (sz (List.length Ls + sumBy wY Ls) (1048576 : Int) < 0) = true → ObsEq [] [] ∧ AV.sv
 (lb true) = AV.sv (lb true)) ∧ (decide (sz (List.length Ls + sumBy wY Ls) (1048576 : Int) < 0) = false → P_c_szSyntax p (sz (List.length Ls + sumBy wY Ls) 1048576) ∧ (decide (sz
 (wY p) (sz (List.length Ls + sumBy wY Ls) 1048576) < 0) = true → ObsEq [] [] ∧ AV.sv (lb true) = AV.sv (lb true)) ∧ (decide (sz (wY p) (sz (List.length Ls + sumBy wY Ls) 1048576)
 < 0) = false → P_c_toSyntaxS Ls ∧ P_c_toSyntax p ∧ P_c_sPat Ls p ∧ P_c_toSyntaxS Ls ∧ P_c_toSyntax p ∧ P_c_iPat Ls p ∧ P_c_eqCaptureS (a1_c_LPat Ls p) (a1_c_LPat Ls p) ∧ ((!decide
 (a2_c_LPat Ls p)) = true → true = true ∧ ObsEq [] [] ∧ AV.sv (lb false) = AV.sv (lb true)) ∧ ((!decide (a2_c_LPat Ls p)) = false → (decide ((a3_c_LPat Ls p) ≠ (a3_c_LPat Ls p)) =
 true → ObsEq [] [] ∧ AV.sv (lb false) = AV.sv (lb true)) ∧ (decide ((a3_c_LPat Ls p) ≠ (a3_c_LPat Ls p)) = false → P_c_toSyntaxS Ls ∧ P_c_eqSyntaxS Ls Ls ∧ ((!decide (Ls = Ls)) =
 true → ObsEq [] [] ∧ AV.sv (lb false) = AV.sv (lb true)) ∧ ((!decide (Ls = Ls)) = false → P_c_toSyntax p ∧ P_c_eqSyntax p p ∧ ((!decide (p = p)) = true → ObsEq [] [] ∧ AV.sv (lb
 false) = AV.sv (lb true)) ∧ ((!decide (p = p)) = false → CallOK Try.prog 89 [Ob.arr true 5 (List.map syntaxC Ls)] [SV.one (AC.ref 0), li 1] [Ob.arr true 5 (List.map syntaxC (seqM
 mkY cY Ls 1))] (AV.sv (li (1 + (↑(sumBy cY Ls) : Int)))) ∧ P_c_markSyntax p (1 + (↑(sumBy cY Ls) : Int)) ∧ false = false ∧ P_c_eqCaptureS (a1_c_LPat Ls p) (a1_c_LPat Ls p) ∧
 ((!decide (a2_c_LPat Ls p)) = true → true = true ∧ ObsEq [] [] ∧ AV.sv (lb false) = AV.sv (lb true)) ∧ ((!decide (a2_c_LPat Ls p)) = false → (decide ((a3_c_LPat Ls p) ≠ (a3_c_LPat
 Ls p)) = true → ObsEq [] [] ∧ AV.sv (lb false) = AV.sv (lb true)) ∧ (decide ((a3_c_LPat Ls p) ≠ (a3_c_LPat Ls p)) = false → CallOK Try.prog 91 [Ob.arr true 12 (List.map captureC
 (a1_c_LPat Ls p))] [SV.one (AC.ref 0), li 1] [Ob.arr true 12 (List.map captureC (seqM mkP cP (a1_c_LPat Ls p) 1))] (AV.sv (li (1 + (↑(sumBy cP (a1_c_LPat Ls p)) : Int)))) ∧ CallOK
 Try.prog 92 [] [ll (List.map captureC (seqM mkP cP (a1_c_LPat Ls p) 1)), li 1] [] (AV.sv (li (1 + (↑(sumBy cP (seqM mkP cP (a1_c_LPat Ls p) 1)) : Int)))) ∧ false = false ∧ (decide
 (a4_c_LPat Ls p) = true → ObsEq [] [] ∧ AV.sv (lb false) = AV.sv (lb true)) ∧ (decide (a4_c_LPat Ls p) = false → P_c_toSyntaxS Ls ∧ P_c_toSyntax p ∧ P_c_iPat Ls p ∧ P_c_eqCaptureS
 (a1_c_LPat Ls p) (a1_c_LPat Ls p) ∧ ((!decide (a2_c_LPat Ls p)) = true → true = true ∧ ObsEq [] [] ∧ AV.sv (lb false) = AV.sv (lb true)) ∧ ((!decide (a2_c_LPat Ls p)) = false →
 (decide ((a3_c_LPat Ls p) ≠ (a3_c_LPat Ls p)) = true → ObsEq [] [] ∧ AV.sv (lb false) = AV.sv (lb true)) ∧ (decide ((a3_c_LPat Ls p) ≠ (a3_c_LPat Ls p)) = false → CallOK Try.prog
 92 [] [ll (List.map captureC (seqM mkP cP (a1_c_LPat Ls p) 1)), li 1] [] (AV.sv (li (1 + (↑(sumBy cP (seqM mkP cP (a1_c_LPat Ls p) 1)) : Int)))) ∧ false = false ∧ (decide
 (a4_c_LPat Ls p) = true → ObsEq [] [] ∧ AV.sv (lb false) = AV.sv (lb true)) ∧ (decide (a4_c_LPat Ls p) = false → ObsEq [] [] ∧ AV.sv (lb true) = AV.sv (lb true)))))))))))))) := by
 kernel_rfl
theorem c_LPat (Ls : List Syntax) (p : Syntax)  : P_c_LPat Ls p := by
  refine CallOK.ofRun wide (run_c_LPat Ls p) Try.call15 Try.func15 rfl rfl rfl ?_
  try delta a1_c_LPat a2_c_LPat a3_c_LPat a4_c_LPat
  have b1 := sumBy_le16 Ls fun x _ => cY_le x
  have b2 := cY_le p
  have b3 := cY_eq p
  have b4 := vrS_top Ls p
  with_reducible repeat' (first | apply And.intro | exact flatI | exact flatS | exact rowLens | (intro; skip) | apply obsN | apply obsC | apply obA | apply obM | apply obB | apply svA | apply tupA | apply lcA | apply lcS | apply svC | apply liC | apply lbC | apply lsC | apply vIc | apply vBc | apply vSc | apply vLc | apply mapC | apply c_szSyntaxS | apply c_szSyntax | apply c_toSyntaxS | apply c_toSyntax | apply c_eqSyntaxS | apply c_eqSyntax | apply c_eqCaptureS | apply c_eqCapture | apply c_sPat | apply c_iPat | apply c_markSyntaxS | apply c_markSyntaxSL | apply c_markSyntax | apply c_markCaptureS | apply c_markCaptureSL | apply c_heldCaptureS | apply c_heldCaptureSL)
  all_goals (try simp only [std, stdM] at *)
  all_goals (try (first | with_reducible apply c_szSyntaxS | with_reducible apply c_szSyntax | with_reducible apply c_toSyntaxS | with_reducible apply c_toSyntax | with_reducible apply c_eqSyntaxS | with_reducible apply c_eqSyntax | with_reducible apply c_eqCaptureS | with_reducible apply c_eqCapture | with_reducible apply c_sPat | with_reducible apply c_iPat | with_reducible apply c_markSyntaxS | with_reducible apply c_markSyntaxSL | with_reducible apply c_markSyntax | with_reducible apply c_markCaptureS | with_reducible apply c_markCaptureSL | with_reducible apply c_heldCaptureS | with_reducible apply c_heldCaptureSL | (simp only [← List.map_append]; first | with_reducible apply c_szSyntaxS | with_reducible apply c_szSyntax | with_reducible apply c_toSyntaxS | with_reducible apply c_toSyntax | with_reducible apply c_eqSyntaxS | with_reducible apply c_eqSyntax | with_reducible apply c_eqCaptureS | with_reducible apply c_eqCapture | with_reducible apply c_sPat | with_reducible apply c_iPat | with_reducible apply c_markSyntaxS | with_reducible apply c_markSyntaxSL | with_reducible apply c_markSyntax | with_reducible apply c_markCaptureS | with_reducible apply c_markCaptureSL | with_reducible apply c_heldCaptureS | with_reducible apply c_heldCaptureSL)))
  all_goals (try (first | with_reducible rfl | omega | assumption | (refine (decide_eq_true ?_).symm; assumption) | (refine (decide_eq_false ?_).symm; assumption) | (refine rowGet ?_; (first | omega | (simp only [std, stdM]; omega) | grind)) | (refine getC ?_ rfl; (first | omega | (simp only [std, stdM]; omega) | grind)) | (refine fill_step ?_ ?_; (first | omega | (simp only [std, stdM]; omega) | grind); (first | rfl | exact (Row.eq _).trans rfl)) | (refine fill_init ?_; (first | rfl | exact (Row.eq _).trans rfl)) | (refine set_row ?_; (simp only [List.length_map, List.length_set, mkTo_len]; omega)) | (refine mkToRow ?_; (first | omega | (simp only [std, stdM]; omega) | grind)) | (refine mkTo_row ?_ rfl; (first | omega | (simp only [std, stdM]; omega) | grind)) | (refine mkTo_step ?_ ?_; (first | omega | (simp only [std, stdM]; omega) | grind); (first | grind [sz, seqM_idem, seqM_len, sum_seqM, snocI, snocS, rowSnoc])) | (show (_ : St) = _; rfl) | grind [sz, seqM_idem, seqM_len, sum_seqM, snocI, snocS, rowSnoc]))
end Go.Proofs.Ytehpjofddjmbpaa
end
section
namespace Go.Proofs.Ytehpjofddjmbpaa.fnExactPatternVariables
open Go Go.ChangeShapes Go.WideShapes Go.ChangeAt Go.RowKit Go.Proofs.Ytehpjofddjmbpaa.Ab
set_option linter.unusedVariables false
theorem own : ownKnob Try.prog.godebug = none := by kernel_rfl
theorem laid : laidOutB Try.prog = true := by kernel_rfl
theorem rowed : mapsRowed Try.prog = true := by kernel_rfl
theorem sized : ((List.range Try.prog.types.size).all fun t => match Try.prog.underlying t with | some (.slice e) => decide (0 < Try.prog.cellsOf e) | _ => true) = true := by kernel_rfl
set_option maxRecDepth 100000 in
theorem lifted (os : Os) (started : os.Started) (H : Type) (enc : TypeId × Value → H) :
    ReturnsInHanded {} Try.checked os 15 .any (Rows.fnExactPatternVariablesSpec.pre6 enc Try.prog Try.f15 Rows.fnExactPatternVariablesRow.domain false) (Rows.fnExactPatternVariablesSpec.post enc Try.prog Try.f15 false true false false) := by
  refine returnsInHanded_of_change (C := Try.checked) own started (by kernel_rfl) Try.func15
    (ChangeSpec.witness6 (enc := enc) (C := Try.checked) false ⟨#[], #[.slice none 0 0, .agg #[.int .i64 0, .int .i64 0, .string ⟨#[]⟩, .slice none 0 0, .slice none 0 0]], []⟩ 12 (by kernel_rfl) (by kernel_rfl) (by kernel_rfl) (by kernel_rfl)) ?_
  intro W base args ds gs before hval0 hW hcnd _
  have hval : ∀ (j : Nat) t v, Try.f15.params[j]? = some t → args[j]? = some v → Value.okWide Try.prog W .any base t v := hval0
  have hW' := hW
  obtain ⟨p, q, hA0, hV, rfl, hfz, hnd⟩ := hW
  obtain ⟨rfl, rfl⟩ := trodVars_none hV
  have hA : DataW.TrodAll enc Try.prog W 0 (fun _ => true) true Try.f15.params.toList args.toList ds p := hA0
  rw [Try.params15] at hA hval
  have hA2 := hA
  clear hA0 hval0
  obtain ⟨v0, vs0, d0, ds0, p0, q0, hargs0, rfl, rfl, h0, r0⟩ := trodAll_cons hA
  obtain ⟨v1, vs1, d1, ds1, p1, q1, hargs1, rfl, rfl, h1, r1⟩ := trodAll_cons r0
  obtain ⟨rfl, rfl, rfl⟩ := trodAll_nil r1
  obtain rfl : args = #[v0, v1] := by cases args; simp_all
  obtain ⟨a0, c0⟩ := (let ⟨fuel, hf⟩ := h0; rd_slice (C := syntaxC) Try.underlying73 (by rw [show Try.prog.cellsOf 75 = 5 from by kernel_rfl]; decide) (fun a => by rw [syntaxC_eq]; kernel_rfl) (fun m hm cs x h => by obtain ⟨a, ha⟩ := rd_syntax m cs x h; exact ⟨a, by rw [syntaxC_eq]; exact ha⟩) hf)
  have s0 : SVRel W (allI W) (obOf []) (ll (a0.map syntaxC)) v0 := one_rel (by obtain ⟨_, _, _, rfl⟩ := okWide_slice Try.underlying73 (hval 0 73 v0 rfl rfl); rfl) c0
  obtain ⟨a1, c1⟩ := (let ⟨fuel, hf⟩ := h1; rd_syntax fuel _ _ hf)
  have s1 : SVRel W (allI W) (obOf []) (syntaxA a1) v1 := agg_rel (let ⟨cs, h, _⟩ := okWide_struct Try.underlying75 (hval 1 75 v1 rfl rfl); ⟨cs, h⟩) c1
  refine (CallOK.kept (w := W) (vals := #[v0, v1]) (c_LPat a0 a1) ⟨s0, s1, trivial⟩).mono fun e W' ⟨he, hg, _⟩ => ?_
  subst he
  exact ⟨_, rfl, post_of_kept (pv := []) hW' (fun _ _ _ => (trodAll_cons_mk (shut_bool Try.underlying4 _) trodAll_mk0))
    (fun sp hsp => trodAll_kept laid rowed sized hg (by decide +kernel) hA2 fun y hy => hsp y (by simpa using hy)) (fun _ _ => rfl) rfl
    hg (ok_one (by kernel_rfl) rfl (okWide_bool_mk Try.underlying4 _))⟩
set_option maxRecDepth 100000 in
set_option maxHeartbeats 0 in
theorem facts : joinedFacts Try.pinned.checked.prog 15 Try.f15 Rows.fnExactPatternVariablesSpec Rows.fnExactPatternVariablesRow = true := by
  delta joinedFacts
  with_reducible repeat' apply and_i
  all_goals (first | with_reducible exact enters | (rw [makes]; kernel_rfl) | (rw [lifts]; kernel_rfl) | decide +kernel)
theorem over : Rows.fnExactPatternVariablesRow.holds Try.pinned (OpenSpec.ofChange Rows.fnExactPatternVariablesSpec) :=
  OpenClaim.holds_of_wide 15 Try.f15 rfl rfl rfl rfl rfl rfl rfl ⟨rfl, rfl, rfl, rfl, rfl⟩ rfl rfl rfl rfl rfl (by kernel_rfl) Try.func15 facts
    (of_decide_eq_true (by kernel_rfl)) (by unfold Func.isWrapper; first | (rw [if_pos (by decide +kernel)]; kernel_rfl) | (rw [if_neg (by decide +kernel)]; exact ⟨rfl, rfl⟩))
    (fun os started H enc _ => lifted os started H enc)
theorem proved : Rows.FnExactPatternVariablesSaid :=
  over
end Go.Proofs.Ytehpjofddjmbpaa.fnExactPatternVariables
end
