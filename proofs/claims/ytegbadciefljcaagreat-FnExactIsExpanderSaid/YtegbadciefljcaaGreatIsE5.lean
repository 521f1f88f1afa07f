/- The program's IsExpander returns what the reference's returns, for all arguments. No condition. -/
import Derived.Test.YtegbadciefljcaaGreatIsE4
section
namespace Go.Proofs.YtegbadciefljcaaGreat
open Go Go.Proofs.YtegbadciefljcaaGreat.Ab
set_option linter.unusedVariables false
set_option linter.unusedSimpArgs false
set_option maxHeartbeats 4000000
abbrev P_c_toIntS (L : List Int) : Prop := CallOK Tryz.prog 97 [] [ll (L.map intC)] [.arr true 1 (L.map intC)] (.sv (.one (.ref 0)))
def Tc_toIntSLa (L : List Int) (x0 : SV) (x1 : Ob) : St := St.mk (regsOf 22 [(0, AV.sv (ll (List.map intC L))), (3, AV.sv (SV.one (AC.ref 0))), (4, AV.sv x0)]) [x1] 0 
def Lc_toIntSLa (L : List Int) (k : Nat) : St := Tc_toIntSLa L (li (↑k : Int)) (Ob.arr true 1 (List.map intC (fillTo L k))) 
def Ic_toIntSLa (L : List Int) : Nat → St → Prop := Head (Lc_toIntSLa L) (fun k => k ≤ List.length L ∧ List.length L ≤ 9223372036854775807) fun k => List.length L - k 
def W0c_toIntSLa (L : List Int) (x0 : Ob) : St := St.mk (regsOf 22 [(3, AV.sv (SV.one (AC.ref 0)))]) [x0] 0 
def Yc_toIntSLa (L : List Int) : List (Prop × AEx × St) := [(True, AEx.exit 0, W0c_toIntSLa L (Ob.arr true 1 (List.map intC L)))]
theorem Hc_toIntSLa {L : List Int} {k : Nat} {m : Nat} (h : (fun k => k ≤ List.length L ∧ List.length L ≤ 9223372036854775807) k) (hm : (fun k => List.length L - k) k = m) :
 Ic_toIntSLa L m (Lc_toIntSLa L k) := hm ▸ Head.mk h
theorem Ec_toIntSLa {L : List Int} {k : Nat} {x0 : SV} {x1 : Ob} (h0 : x0 = (li (↑k : Int))) (h1 : x1 = (Ob.arr true 1 (List.map intC (fillTo L k)))) : Tc_toIntSLa L x0 x1 =
 Lc_toIntSLa L k := by
  rw [h0, h1]
  rfl
theorem EW0c_toIntSLa {L : List Int} {x0 y0 : Ob} (h0 : x0 = y0) : W0c_toIntSLa L x0 = W0c_toIntSLa L y0 := by rw [h0]
theorem run_c_toIntSLa (L : List Int) (k : Nat) : aexec Tryz.prog (loopAt Tryz.f97 0) (Lc_toIntSLa L k) [Orc.br [Orc.cells (intC (List.getD L k default)), Orc.cells (intC
 (List.getD (fillTo L k) (Int.toNat (↑k : Int)) default)), Orc.ghost (Ghost.sel [0] [0, 3, 4]), Orc.goto (List.length L - (k + 1)) (Lc_toIntSLa L (k + 1))] [Orc.ghost (Ghost.sel
 [0] [3]), Orc.out 0]] (loopK (Ic_toIntSLa L) (Yc_toIntSLa L) (List.length L - k)) = (List.length (List.map intC L) ≤ 9223372036854775807 → (decide ((↑k : Int) < (↑(List.length
 (List.map intC L)) : Int)) = true → (0 ≤ (↑k : Int) ∧ (List.map intC L)[Int.toNat (↑k : Int)]? = some [cI (List.getD L k 0)]) ∧ (0 ≤ (↑k : Int) ∧ Int.toNat (↑k : Int) <
 List.length (List.map intC (fillTo L k))) ∧ (List.map intC (fillTo L k))[Int.toNat (↑k : Int)]? = some [cI (List.getD (fillTo L k) (Int.toNat (↑k : Int)) 0)] ∧ rng IntKind.i64
 ((↑k : Int) + 1) ∧ List.length L - (k + 1) < List.length L - k ∧ Tc_toIntSLa L (li ((↑k : Int) + 1)) (Ob.arr true 1 (List.set (List.map intC (fillTo L k)) (Int.toNat (↑k : Int))
 [cI (List.getD L k 0)])) = Lc_toIntSLa L (k + 1) ∧ Ic_toIntSLa L (List.length L - (k + 1)) (Lc_toIntSLa L (k + 1))) ∧ (decide ((↑k : Int) < (↑(List.length (List.map intC L)) :
 Int)) = false → True ∧ W0c_toIntSLa L (Ob.arr true 1 (List.map intC (fillTo L k))) = W0c_toIntSLa L (Ob.arr true 1 (List.map intC L)))) := by kernel_rfl
theorem Sc_toIntSLa (L : List Int) (h : List.length L ≤ 1048576)  : LoopSem Tryz.prog (loopAt Tryz.f97 0) (Ic_toIntSLa L) (Yc_toIntSLa L) := by
  refine LoopSem.ofHead wide fun k h => ⟨_, _, run_c_toIntSLa L k, ?_⟩
  with_reducible repeat' (first | apply And.intro | exact flatI | exact flatS | exact rowLens | (intro; skip) | apply obsN | apply obsC | apply obA | apply obM | apply obB | apply svA | apply tupA | apply lcA | apply lcS | apply svC | apply liC | apply lbC | apply lsC | apply vIc | apply vBc | apply vSc | apply vLc | apply mapC | apply Hc_toIntSLa | apply Ec_toIntSLa | apply EW0c_toIntSLa)
  all_goals (try simp only [std] at *)
  all_goals (try (first | with_reducible rfl | omega | assumption | (refine (decide_eq_true ?_).symm; assumption) | (refine (decide_eq_false ?_).symm; assumption) | (refine rowGet ?_; (first | omega | (simp only [std]; omega) | grind)) | (refine getC ?_ rfl; (first | omega | (simp only [std]; omega) | grind)) | (refine fill_step ?_ ?_; (first | omega | (simp only [std]; omega) | grind); (first | rfl | exact (Row.eq _).trans rfl)) | (refine fill_init ?_; (first | rfl | exact (Row.eq _).trans rfl)) | (show (_ : St) = _; rfl) | grind [fillTo_all, snocI, snocS, rowSnoc]))
theorem run_c_toIntS (L : List Int) : aexec Tryz.prog (Option.getD (Func.body Tryz.f97) Code.skip) (entry [] [ll (List.map intC L)] 22) [Orc.ghost (Ghost.sel [0] [0, 3, 4]),
 Orc.loop (List.length L - 0) (Lc_toIntSLa L 0) (Ic_toIntSLa L) [(True, AEx.exit 0, W0c_toIntSLa L (Ob.arr true 1 (List.map intC L)), [Orc.fin [0]])]] (finK Tryz.prog
 [ResultVar.tmp 2] [Ob.arr true 1 (List.map intC L)] (AV.sv (SV.one (AC.ref 0)))) = (List.length (List.map intC L) ≤ 9223372036854775807 → (0 ≤ (↑(List.length (List.map intC L)) :
 Int) ∧ 8 * Int.toNat (↑(List.length (List.map intC L)) : Int) ≤ 281474976710656) ∧ Tc_toIntSLa L (li 0) (Ob.arr true 1 (List.replicate (Int.toNat (↑(List.length (List.map intC L))
 : Int)) [cI 0])) = Lc_toIntSLa L 0 ∧ Ic_toIntSLa L (List.length L - 0) (Lc_toIntSLa L 0) ∧ LoopSem Tryz.prog (loopAt Tryz.f97 0) (Ic_toIntSLa L) (Yc_toIntSLa L) ∧ (True → ObsEq
 [Ob.arr true 1 (List.map intC L)] [Ob.arr true 1 (List.map intC L)] ∧ AV.sv (SV.one (AC.ref 0)) = AV.sv (SV.one (AC.ref 0))) ∧ True) := by kernel_rfl
theorem c_toIntS (L : List Int) (h : L.length ≤ 1048576)  : P_c_toIntS L := by
  refine CallOK.ofRun wide (run_c_toIntS L) Tryz.call97 Tryz.func97 rfl rfl rfl ?_
  with_reducible repeat' (first | apply And.intro | exact flatI | exact flatS | exact rowLens | (intro; skip) | apply obsN | apply obsC | apply obA | apply obM | apply obB | apply svA | apply tupA | apply lcA | apply lcS | apply svC | apply liC | apply lbC | apply lsC | apply vIc | apply vBc | apply vSc | apply vLc | apply mapC | apply Hc_toIntSLa | apply Ec_toIntSLa | apply Sc_toIntSLa | apply EW0c_toIntSLa)
  all_goals (try simp only [std] at *)
  all_goals (try (first | with_reducible rfl | omega | assumption | (refine (decide_eq_true ?_).symm; assumption) | (refine (decide_eq_false ?_).symm; assumption) | (refine rowGet ?_; (first | omega | (simp only [std]; omega) | grind)) | (refine getC ?_ rfl; (first | omega | (simp only [std]; omega) | grind)) | (refine fill_step ?_ ?_; (first | omega | (simp only [std]; omega) | grind); (first | rfl | exact (Row.eq _).trans rfl)) | (refine fill_init ?_; (first | rfl | exact (Row.eq _).trans rfl)) | (show (_ : St) = _; rfl) | grind [snocI, snocS, rowSnoc]))
abbrev P_c_toSyntaxS (L : List Syntax) : Prop := CallOK Tryz.prog 30 [] [ll (L.map syntaxC)] [.arr true 5 (L.map syntaxC)] (.sv (.one (.ref 0)))
abbrev P_c_toSyntax (x : Syntax) : Prop := CallOK Tryz.prog 31 [] [syntaxA x] (syntaxO x) (.sv (syntaxR x 0))
def Tc_toSyntaxSLa (L : List Syntax) (x0 : SV) (x1 : Ob) : St := St.mk (regsOf 23 [(0, AV.sv (ll (List.map syntaxC L))), (3, AV.sv (SV.one (AC.ref 0))), (4, AV.sv x0)]) [x1] 0 
def Lc_toSyntaxSLa (L : List Syntax) (k : Nat) : St := Tc_toSyntaxSLa L (li (↑k : Int)) (Ob.arr true 5 (List.map syntaxC (fillTo L k))) 
def Ic_toSyntaxSLa (L : List Syntax) : Nat → St → Prop := Head (Lc_toSyntaxSLa L) (fun k => k ≤ List.length L ∧ List.length L ≤ 9223372036854775807) fun k => List.length L - k 
def W0c_toSyntaxSLa (L : List Syntax) (x0 : Ob) : St := St.mk (regsOf 23 [(3, AV.sv (SV.one (AC.ref 0)))]) [x0] 0 
def Yc_toSyntaxSLa (L : List Syntax) : List (Prop × AEx × St) := [(True, AEx.exit 0, W0c_toSyntaxSLa L (Ob.arr true 5 (List.map syntaxC L)))]
theorem Hc_toSyntaxSLa {L : List Syntax} {k : Nat} {m : Nat} (h : (fun k => k ≤ List.length L ∧ List.length L ≤ 9223372036854775807) k) (hm : (fun k => List.length L - k) k = m) :
 Ic_toSyntaxSLa L m (Lc_toSyntaxSLa L k) := hm ▸ Head.mk h
theorem Ec_toSyntaxSLa {L : List Syntax} {k : Nat} {x0 : SV} {x1 : Ob} (h0 : x0 = (li (↑k : Int))) (h1 : x1 = (Ob.arr true 5 (List.map syntaxC (fillTo L k)))) : Tc_toSyntaxSLa L x0
 x1 = Lc_toSyntaxSLa L k := by
  rw [h0, h1]
  rfl
theorem EW0c_toSyntaxSLa {L : List Syntax} {x0 y0 : Ob} (h0 : x0 = y0) : W0c_toSyntaxSLa L x0 = W0c_toSyntaxSLa L y0 := by rw [h0]
theorem run_c_toSyntaxSLa (L : List Syntax) (k : Nat) : aexec Tryz.prog (loopAt Tryz.f30 0) (Lc_toSyntaxSLa L k) [Orc.br [Orc.cells (syntaxF (List.getD L k default)), Orc.call
 [Mode.rd] (syntaxO (List.getD L k default)) (AV.sv (syntaxR (List.getD L k default) 0)), Orc.cells (syntaxF (List.getD (fillTo L k) (Int.toNat (↑k : Int)) default)), Orc.ghost
 (Ghost.sel [0] [0, 3, 4]), Orc.goto (List.length L - (k + 1)) (Lc_toSyntaxSLa L (k + 1))] [Orc.ghost (Ghost.sel [0] [3]), Orc.out 0]] (loopK (Ic_toSyntaxSLa L) (Yc_toSyntaxSLa L)
 (List.length L - k)) = (List.length (List.map syntaxC L) ≤ 9223372036854775807 → (decide ((↑k : Int) < (↑(List.length (List.map syntaxC L)) : Int)) = true → (0 ≤ (↑k : Int) ∧
 (List.map syntaxC L)[Int.toNat (↑k : Int)]? = some (syntaxF (List.getD L k default))) ∧ P_c_toSyntax (List.getD L k default) ∧ (0 ≤ (↑k : Int) ∧ Int.toNat (↑k : Int) < List.length
 (List.map syntaxC (fillTo L k))) ∧ (List.map syntaxC (fillTo L k))[Int.toNat (↑k : Int)]? = some (syntaxF (List.getD (fillTo L k) (Int.toNat (↑k : Int)) default)) ∧ rng
 IntKind.i64 ((↑k : Int) + 1) ∧ List.length L - (k + 1) < List.length L - k ∧ Tc_toSyntaxSLa L (li ((↑k : Int) + 1)) (Ob.arr true 5 (List.set (List.map syntaxC (fillTo L k))
 (Int.toNat (↑k : Int)) (syntaxF (List.getD L k default)))) = Lc_toSyntaxSLa L (k + 1) ∧ Ic_toSyntaxSLa L (List.length L - (k + 1)) (Lc_toSyntaxSLa L (k + 1))) ∧ (decide ((↑k :
 Int) < (↑(List.length (List.map syntaxC L)) : Int)) = false → True ∧ W0c_toSyntaxSLa L (Ob.arr true 5 (List.map syntaxC (fillTo L k))) = W0c_toSyntaxSLa L (Ob.arr true 5 (List.map
 syntaxC L)))) := by kernel_rfl
theorem Sc_toSyntaxSLa (L : List Syntax) (h : List.length L + sumBy wY L ≤ 1048576) (ih : ∀ (x : Syntax), x ∈ L → wY x ≤ 1048576 → P_c_toSyntax x)  : LoopSem Tryz.prog (loopAt
 Tryz.f30 0) (Ic_toSyntaxSLa L) (Yc_toSyntaxSLa L) := by
  refine LoopSem.ofHead wide fun k h => ⟨_, _, run_c_toSyntaxSLa L k, ?_⟩
  with_reducible repeat' (first | apply And.intro | exact flatI | exact flatS | exact rowLens | exact ih | (intro; skip) | apply obsN | apply obsC | apply obA | apply obM | apply obB | apply svA | apply tupA | apply lcA | apply lcS | apply svC | apply liC | apply lbC | apply lsC | apply vIc | apply vBc | apply vSc | apply vLc | apply mapC | apply Hc_toSyntaxSLa | apply Ec_toSyntaxSLa | apply EW0c_toSyntaxSLa | apply ih)
  all_goals (try simp only [std] at *)
  all_goals (try (first | with_reducible apply ih | (simp only [← List.map_append]; first | with_reducible apply ih)))
  all_goals (try (first | with_reducible rfl | omega | assumption | (refine (decide_eq_true ?_).symm; assumption) | (refine (decide_eq_false ?_).symm; assumption) | (refine rowGet ?_; (first | omega | (simp only [std]; omega) | grind)) | (refine getC ?_ rfl; (first | omega | (simp only [std]; omega) | grind)) | (refine fill_step ?_ ?_; (first | omega | (simp only [std]; omega) | grind); (first | rfl | exact (Row.eq _).trans rfl)) | (refine fill_init ?_; (first | rfl | exact (Row.eq _).trans rfl)) | (show (_ : St) = _; rfl) | grind [fillTo_all, getD_mem', sumBy_mem, snocI, snocS, rowSnoc]))
theorem run_c_toSyntaxS (L : List Syntax) : aexec Tryz.prog (Option.getD (Func.body Tryz.f30) Code.skip) (entry [] [ll (List.map syntaxC L)] 23) [Orc.ghost (Ghost.sel [0] [0, 3,
 4]), Orc.loop (List.length L - 0) (Lc_toSyntaxSLa L 0) (Ic_toSyntaxSLa L) [(True, AEx.exit 0, W0c_toSyntaxSLa L (Ob.arr true 5 (List.map syntaxC L)), [Orc.fin [0]])]] (finK
 Tryz.prog [ResultVar.tmp 2] [Ob.arr true 5 (List.map syntaxC L)] (AV.sv (SV.one (AC.ref 0)))) = (List.length (List.map syntaxC L) ≤ 9223372036854775807 → (0 ≤ (↑(List.length
 (List.map syntaxC L)) : Int) ∧ 80 * Int.toNat (↑(List.length (List.map syntaxC L)) : Int) ≤ 281474976710656) ∧ Tc_toSyntaxSLa L (li 0) (Ob.arr true 5 (List.replicate (Int.toNat
 (↑(List.length (List.map syntaxC L)) : Int)) [cI 0, cI 0, cS (ByteArray.mk #[]), Cell.list [], Cell.list []])) = Lc_toSyntaxSLa L 0 ∧ Ic_toSyntaxSLa L (List.length L - 0)
 (Lc_toSyntaxSLa L 0) ∧ LoopSem Tryz.prog (loopAt Tryz.f30 0) (Ic_toSyntaxSLa L) (Yc_toSyntaxSLa L) ∧ (True → ObsEq [Ob.arr true 5 (List.map syntaxC L)] [Ob.arr true 5 (List.map
 syntaxC L)] ∧ AV.sv (SV.one (AC.ref 0)) = AV.sv (SV.one (AC.ref 0))) ∧ True) := by kernel_rfl
theorem c_toSyntaxS (L : List Syntax) (h : L.length + sumBy wY L ≤ 1048576) (ih : ∀ x ∈ L, ∀ (h : wY x ≤ 1048576), P_c_toSyntax x)  : P_c_toSyntaxS L := by
  refine CallOK.ofRun wide (run_c_toSyntaxS L) Tryz.call30 Tryz.func30 rfl rfl rfl ?_
  with_reducible repeat' (first | apply And.intro | exact flatI | exact flatS | exact rowLens | exact ih | (intro; skip) | apply obsN | apply obsC | apply obA | apply obM | apply obB | apply svA | apply tupA | apply lcA | apply lcS | apply svC | apply liC | apply lbC | apply lsC | apply vIc | apply vBc | apply vSc | apply vLc | apply mapC | apply Hc_toSyntaxSLa | apply Ec_toSyntaxSLa | apply Sc_toSyntaxSLa | apply EW0c_toSyntaxSLa)
  all_goals (try simp only [std] at *)
  all_goals (try (first | with_reducible apply ih | (simp only [← List.map_append]; first | with_reducible apply ih)))
  all_goals (try (first | with_reducible rfl | omega | assumption | (refine (decide_eq_true ?_).symm; assumption) | (refine (decide_eq_false ?_).symm; assumption) | (refine rowGet ?_; (first | omega | (simp only [std]; omega) | grind)) | (refine getC ?_ rfl; (first | omega | (simp only [std]; omega) | grind)) | (refine fill_step ?_ ?_; (first | omega | (simp only [std]; omega) | grind); (first | rfl | exact (Row.eq _).trans rfl)) | (refine fill_init ?_; (first | rfl | exact (Row.eq _).trans rfl)) | (show (_ : St) = _; rfl) | grind [snocI, snocS, rowSnoc]))
theorem run_c_toSyntax_s (x : Syntax) : aexec Tryz.prog (Option.getD (Func.body Tryz.f31) Code.skip) (entry [] [syntaxA x] 22) [Orc.call [Mode.rd] [Ob.arr true 1 (List.map intC
 (Syntax.scopes x))] (AV.sv (SV.one (AC.ref 0))), Orc.call [Mode.rd] [Ob.arr true 5 (List.map syntaxC (Syntax.items x))] (AV.sv (SV.one (AC.ref 0))), Orc.fin [3, 4]] (finK
 Tryz.prog [ResultVar.cell 2 66] (syntaxO x) (AV.sv (syntaxR x 0))) = (P_c_toIntS (Syntax.scopes x) ∧ P_c_toSyntaxS (Syntax.items x) ∧ ObsEq [Ob.arr true 1 (List.map intC
 (Syntax.scopes x)), Ob.arr true 5 (List.map syntaxC (Syntax.items x))] [Ob.arr true 1 (List.map intC (Syntax.scopes x)), Ob.arr true 5 (List.map syntaxC (Syntax.items x))] ∧ AV.sv
 (SV.agg [vI (Syntax.kind x), vI (Syntax.number x), vS (Syntax.text x), AC.ref 0, AC.ref 1]) = AV.sv (SV.agg [vI (Syntax.kind x), vI (Syntax.number x), vS (Syntax.text x), AC.ref
 0, AC.ref 1])) := by kernel_rfl
theorem c_toSyntax_s (x : Syntax) (h : wY x ≤ 1048576) (ih : ∀ z ∈ x.items, ∀ (h : wY z ≤ 1048576), P_c_toSyntax z)  : P_c_toSyntax x := by
  refine CallOK.ofRun wide (run_c_toSyntax_s x) Tryz.call31 Tryz.func31 rfl rfl rfl ?_
  with_reducible repeat' (first | apply And.intro | exact flatI | exact flatS | exact rowLens | exact ih | (intro; skip) | apply obsN | apply obsC | apply obA | apply obM | apply obB | apply svA | apply tupA | apply lcA | apply lcS | apply svC | apply liC | apply lbC | apply lsC | apply vIc | apply vBc | apply vSc | apply vLc | apply mapC | apply c_toIntS | apply c_toSyntaxS | apply ih)
  all_goals (try simp only [std] at *)
  all_goals (try (first | with_reducible apply c_toIntS | with_reducible apply c_toSyntaxS | with_reducible apply ih | (simp only [← List.map_append]; first | with_reducible apply c_toIntS | with_reducible apply c_toSyntaxS | with_reducible apply ih)))
  all_goals (try (first | with_reducible rfl | omega | assumption | (refine (decide_eq_true ?_).symm; assumption) | (refine (decide_eq_false ?_).symm; assumption) | (refine rowGet ?_; (first | omega | (simp only [std]; omega) | grind)) | (refine getC ?_ rfl; (first | omega | (simp only [std]; omega) | grind)) | (refine fill_step ?_ ?_; (first | omega | (simp only [std]; omega) | grind); (first | rfl | exact (Row.eq _).trans rfl)) | (refine fill_init ?_; (first | rfl | exact (Row.eq _).trans rfl)) | (show (_ : St) = _; rfl) | grind [wY_eq, wS, snocI, snocS, rowSnoc]))
theorem c_toSyntax (x : Syntax) : ∀ (h : wY x ≤ 1048576), P_c_toSyntax x := Syntax.ind (P := fun x => ∀ (h : wY x ≤ 1048576), P_c_toSyntax x) (fun x ih h => c_toSyntax_s x h ih) x
abbrev P_c_toBinding (x : Binding) : Prop := CallOK Tryz.prog 96 [] [bindingA x] (bindingO x) (.sv (bindingR x 0))
theorem run_c_toBinding (x : Binding) : aexec Tryz.prog (Option.getD (Func.body Tryz.f96) Code.skip) (entry [] [bindingA x] 18) [Orc.call [Mode.rd] [Ob.arr true 1 (List.map intC
 (Binding.scopes x))] (AV.sv (SV.one (AC.ref 0))), Orc.fin [3]] (finK Tryz.prog [ResultVar.cell 2 134] (bindingO x) (AV.sv (bindingR x 0))) = (P_c_toIntS (Binding.scopes x) ∧ ObsEq
 [Ob.arr true 1 (List.map intC (Binding.scopes x))] [Ob.arr true 1 (List.map intC (Binding.scopes x))] ∧ AV.sv (SV.agg [vS (Binding.text x), AC.ref 0, vI (Binding.kind x), vI
 (Binding.number x)]) = AV.sv (SV.agg [vS (Binding.text x), AC.ref 0, vI (Binding.kind x), vI (Binding.number x)])) := by kernel_rfl
theorem c_toBinding (x : Binding) (h : wB x ≤ 1048576)  : P_c_toBinding x := by
  refine CallOK.ofRun wide (run_c_toBinding x) Tryz.call96 Tryz.func96 rfl rfl rfl ?_
  with_reducible repeat' (first | apply And.intro | exact flatI | exact flatS | exact rowLens | (intro; skip) | apply obsN | apply obsC | apply obA | apply obM | apply obB | apply svA | apply tupA | apply lcA | apply lcS | apply svC | apply liC | apply lbC | apply lsC | apply vIc | apply vBc | apply vSc | apply vLc | apply mapC | apply c_toIntS)
  all_goals (try simp only [std] at *)
  all_goals (try (first | with_reducible apply c_toIntS | (simp only [← List.map_append]; first | with_reducible apply c_toIntS)))
  all_goals (try (first | with_reducible rfl | omega | assumption | (refine (decide_eq_true ?_).symm; assumption) | (refine (decide_eq_false ?_).symm; assumption) | (refine rowGet ?_; (first | omega | (simp only [std]; omega) | grind)) | (refine getC ?_ rfl; (first | omega | (simp only [std]; omega) | grind)) | (refine fill_step ?_ ?_; (first | omega | (simp only [std]; omega) | grind); (first | rfl | exact (Row.eq _).trans rfl)) | (refine fill_init ?_; (first | rfl | exact (Row.eq _).trans rfl)) | (show (_ : St) = _; rfl) | grind [wB_eq, wS, snocI, snocS, rowSnoc]))
abbrev P_c_toBindingS (L : List Binding) : Prop := CallOK Tryz.prog 29 [] [ll (L.map bindingC)] [.arr true 4 (L.map bindingC)] (.sv (.one (.ref 0)))
def Tc_toBindingSLa (L : List Binding) (x0 : SV) (x1 : Ob) : St := St.mk (regsOf 23 [(0, AV.sv (ll (List.map bindingC L))), (3, AV.sv (SV.one (AC.ref 0))), (4, AV.sv x0)]) [x1] 0 
def Lc_toBindingSLa (L : List Binding) (k : Nat) : St := Tc_toBindingSLa L (li (↑k : Int)) (Ob.arr true 4 (List.map bindingC (fillTo L k))) 
def Ic_toBindingSLa (L : List Binding) : Nat → St → Prop := Head (Lc_toBindingSLa L) (fun k => k ≤ List.length L ∧ List.length L ≤ 9223372036854775807) fun k => List.length L - k 
def W0c_toBindingSLa (L : List Binding) (x0 : Ob) : St := St.mk (regsOf 23 [(3, AV.sv (SV.one (AC.ref 0)))]) [x0] 0 
def Yc_toBindingSLa (L : List Binding) : List (Prop × AEx × St) := [(True, AEx.exit 0, W0c_toBindingSLa L (Ob.arr true 4 (List.map bindingC L)))]
theorem Hc_toBindingSLa {L : List Binding} {k : Nat} {m : Nat} (h : (fun k => k ≤ List.length L ∧ List.length L ≤ 9223372036854775807) k) (hm : (fun k => List.length L - k) k = m)
 : Ic_toBindingSLa L m (Lc_toBindingSLa L k) := hm ▸ Head.mk h
theorem Ec_toBindingSLa {L : List Binding} {k : Nat} {x0 : SV} {x1 : Ob} (h0 : x0 = (li (↑k : Int))) (h1 : x1 = (Ob.arr true 4 (List.map bindingC (fillTo L k)))) : Tc_toBindingSLa
 L x0 x1 = Lc_toBindingSLa L k := by
  rw [h0, h1]
  rfl
theorem EW0c_toBindingSLa {L : List Binding} {x0 y0 : Ob} (h0 : x0 = y0) : W0c_toBindingSLa L x0 = W0c_toBindingSLa L y0 := by rw [h0]
theorem run_c_toBindingSLa (L : List Binding) (k : Nat) : aexec Tryz.prog (loopAt Tryz.f29 0) (Lc_toBindingSLa L k) [Orc.br [Orc.cells (bindingF (List.getD L k default)), Orc.call
 [Mode.rd] (bindingO (List.getD L k default)) (AV.sv (bindingR (List.getD L k default) 0)), Orc.cells (bindingF (List.getD (fillTo L k) (Int.toNat (↑k : Int)) default)), Orc.ghost
 (Ghost.sel [0] [0, 3, 4]), Orc.goto (List.length L - (k + 1)) (Lc_toBindingSLa L (k + 1))] [Orc.ghost (Ghost.sel [0] [3]), Orc.out 0]] (loopK (Ic_toBindingSLa L) (Yc_toBindingSLa
 L) (List.length L - k)) = (List.length (List.map bindingC L) ≤ 9223372036854775807 → (decide ((↑k : Int) < (↑(List.length (List.map bindingC L)) : Int)) = true → (0 ≤ (↑k : Int) ∧
 (List.map bindingC L)[Int.toNat (↑k : Int)]? = some (bindingF (List.getD L k default))) ∧ P_c_toBinding (List.getD L k default) ∧ (0 ≤ (↑k : Int) ∧ Int.toNat (↑k : Int) <
 List.length (List.map bindingC (fillTo L k))) ∧ (List.map bindingC (fillTo L k))[Int.toNat (↑k : Int)]? = some (bindingF (List.getD (fillTo L k) (Int.toNat (↑k : Int)) default)) ∧
 rng IntKind.i64 ((↑k : Int) + 1) ∧ List.length L - (k + 1) < List.length L - k ∧ Tc_toBindingSLa L (li ((↑k : Int) + 1)) (Ob.arr true 4 (List.set (List.map bindingC (fillTo L k))
 (Int.toNat (↑k : Int)) (bindingF (List.getD L k default)))) = Lc_toBindingSLa L (k + 1) ∧ Ic_toBindingSLa L (List.length L - (k + 1)) (Lc_toBindingSLa L (k + 1))) ∧ (decide ((↑k :
 Int) < (↑(List.length (List.map bindingC L)) : Int)) = false → True ∧ W0c_toBindingSLa L (Ob.arr true 4 (List.map bindingC (fillTo L k))) = W0c_toBindingSLa L (Ob.arr true 4
 (List.map bindingC L)))) := by kernel_rfl
theorem Sc_toBindingSLa (L : List Binding) (h : List.length L + sumBy wB L ≤ 1048576)  : LoopSem Tryz.prog (loopAt Tryz.f29 0) (Ic_toBindingSLa L) (Yc_toBindingSLa L) := by
  refine LoopSem.ofHead wide fun k h => ⟨_, _, run_c_toBindingSLa L k, ?_⟩
  with_reducible repeat' (first | apply And.intro | exact flatI | exact flatS | exact rowLens | (intro; skip) | apply obsN | apply obsC | apply obA | apply obM | apply obB | apply svA | apply tupA | apply lcA | apply lcS | apply svC | apply liC | apply lbC | apply lsC | apply vIc | apply vBc | apply vSc | apply vLc | apply mapC | apply Hc_toBindingSLa | apply Ec_toBindingSLa | apply EW0c_toBindingSLa | apply c_toBinding)
  all_goals (try simp only [std] at *)
  all_goals (try (first | with_reducible apply c_toBinding | (simp only [← List.map_append]; first | with_reducible apply c_toBinding)))
  all_goals (try (first | with_reducible rfl | omega | assumption | (refine (decide_eq_true ?_).symm; assumption) | (refine (decide_eq_false ?_).symm; assumption) | (refine rowGet ?_; (first | omega | (simp only [std]; omega) | grind)) | (refine getC ?_ rfl; (first | omega | (simp only [std]; omega) | grind)) | (refine fill_step ?_ ?_; (first | omega | (simp only [std]; omega) | grind); (first | rfl | exact (Row.eq _).trans rfl)) | (refine fill_init ?_; (first | rfl | exact (Row.eq _).trans rfl)) | (show (_ : St) = _; rfl) | grind [fillTo_all, getD_mem', sumBy_mem, snocI, snocS, rowSnoc]))
theorem run_c_toBindingS (L : List Binding) : aexec Tryz.prog (Option.getD (Func.body Tryz.f29) Code.skip) (entry [] [ll (List.map bindingC L)] 23) [Orc.ghost (Ghost.sel [0] [0, 3,
 4]), Orc.loop (List.length L - 0) (Lc_toBindingSLa L 0) (Ic_toBindingSLa L) [(True, AEx.exit 0, W0c_toBindingSLa L (Ob.arr true 4 (List.map bindingC L)), [Orc.fin [0]])]] (finK
 Tryz.prog [ResultVar.tmp 2] [Ob.arr true 4 (List.map bindingC L)] (AV.sv (SV.one (AC.ref 0)))) = (List.length (List.map bindingC L) ≤ 9223372036854775807 → (0 ≤ (↑(List.length
 (List.map bindingC L)) : Int) ∧ 56 * Int.toNat (↑(List.length (List.map bindingC L)) : Int) ≤ 281474976710656) ∧ Tc_toBindingSLa L (li 0) (Ob.arr true 4 (List.replicate (Int.toNat
 (↑(List.length (List.map bindingC L)) : Int)) [cS (ByteArray.mk #[]), Cell.list [], cI 0, cI 0])) = Lc_toBindingSLa L 0 ∧ Ic_toBindingSLa L (List.length L - 0) (Lc_toBindingSLa L
 0) ∧ LoopSem Tryz.prog (loopAt Tryz.f29 0) (Ic_toBindingSLa L) (Yc_toBindingSLa L) ∧ (True → ObsEq [Ob.arr true 4 (List.map bindingC L)] [Ob.arr true 4 (List.map bindingC L)] ∧
 AV.sv (SV.one (AC.ref 0)) = AV.sv (SV.one (AC.ref 0))) ∧ True) := by kernel_rfl
theorem c_toBindingS (L : List Binding) (h : L.length + sumBy wB L ≤ 1048576)  : P_c_toBindingS L := by
  refine CallOK.ofRun wide (run_c_toBindingS L) Tryz.call29 Tryz.func29 rfl rfl rfl ?_
  with_reducible repeat' (first | apply And.intro | exact flatI | exact flatS | exact rowLens | (intro; skip) | apply obsN | apply obsC | apply obA | apply obM | apply obB | apply svA | apply tupA | apply lcA | apply lcS | apply svC | apply liC | apply lbC | apply lsC | apply vIc | apply vBc | apply vSc | apply vLc | apply mapC | apply Hc_toBindingSLa | apply Ec_toBindingSLa | apply Sc_toBindingSLa | apply EW0c_toBindingSLa | apply c_toBinding)
  all_goals (try simp only [std] at *)
  all_goals (try (first | with_reducible apply c_toBinding | (simp only [← List.map_append]; first | with_reducible apply c_toBinding)))
  all_goals (try (first | with_reducible rfl | omega | assumption | (refine (decide_eq_true ?_).symm; assumption) | (refine (decide_eq_false ?_).symm; assumption) | (refine rowGet ?_; (first | omega | (simp only [std]; omega) | grind)) | (refine getC ?_ rfl; (first | omega | (simp only [std]; omega) | grind)) | (refine fill_step ?_ ?_; (first | omega | (simp only [std]; omega) | grind); (first | rfl | exact (Row.eq _).trans rfl)) | (refine fill_init ?_; (first | rfl | exact (Row.eq _).trans rfl)) | (show (_ : St) = _; rfl) | grind [snocI, snocS, rowSnoc]))
abbrev P_c_toRules (x : Rules) : Prop := CallOK Tryz.prog 55 [] [rulesA x] (rulesO x) (.sv (rulesR x 0))
theorem run_c_toRules (x : Rules) : aexec Tryz.prog (Option.getD (Func.body Tryz.f55) Code.skip) (entry [] [rulesA x] 17) [Orc.call [Mode.rd] [Ob.arr true 5 (List.map syntaxC
 (Rules.literals x))] (AV.sv (SV.one (AC.ref 0))), Orc.call [Mode.rd] [Ob.arr true 5 (List.map syntaxC (Rules.patterns x))] (AV.sv (SV.one (AC.ref 0))), Orc.call [Mode.rd] [Ob.arr
 true 5 (List.map syntaxC (Rules.templates x))] (AV.sv (SV.one (AC.ref 0))), Orc.fin [3, 4, 5]] (finK Tryz.prog [ResultVar.cell 2 78] (rulesO x) (AV.sv (rulesR x 0))) =
 (P_c_toSyntaxS (Rules.literals x) ∧ P_c_toSyntaxS (Rules.patterns x) ∧ P_c_toSyntaxS (Rules.templates x) ∧ ObsEq [Ob.arr true 5 (List.map syntaxC (Rules.literals x)), Ob.arr true
 5 (List.map syntaxC (Rules.patterns x)), Ob.arr true 5 (List.map syntaxC (Rules.templates x))] [Ob.arr true 5 (List.map syntaxC (Rules.literals x)), Ob.arr true 5 (List.map
 syntaxC (Rules.patterns x)), Ob.arr true 5 (List.map syntaxC (Rules.templates x))] ∧ AV.sv (SV.agg [AC.ref 0, AC.ref 1, AC.ref 2]) = AV.sv (SV.agg [AC.ref 0, AC.ref 1, AC.ref 2]))
 := by kernel_rfl
theorem c_toRules (x : Rules) (h : wR x ≤ 1048576)  : P_c_toRules x := by
  refine CallOK.ofRun wide (run_c_toRules x) Tryz.call55 Tryz.func55 rfl rfl rfl ?_
  with_reducible repeat' (first | apply And.intro | exact flatI | exact flatS | exact rowLens | (intro; skip) | apply obsN | apply obsC | apply obA | apply obM | apply obB | apply svA | apply tupA | apply lcA | apply lcS | apply svC | apply liC | apply lbC | apply lsC | apply vIc | apply vBc | apply vSc | apply vLc | apply mapC | apply c_toSyntaxS | apply c_toSyntax)
  all_goals (try simp only [std] at *)
  all_goals (try (first | with_reducible apply c_toSyntaxS | with_reducible apply c_toSyntax | (simp only [← List.map_append]; first | with_reducible apply c_toSyntaxS | with_reducible apply c_toSyntax)))
  all_goals (try (first | with_reducible rfl | omega | assumption | (refine (decide_eq_true ?_).symm; assumption) | (refine (decide_eq_false ?_).symm; assumption) | (refine rowGet ?_; (first | omega | (simp only [std]; omega) | grind)) | (refine getC ?_ rfl; (first | omega | (simp only [std]; omega) | grind)) | (refine fill_step ?_ ?_; (first | omega | (simp only [std]; omega) | grind); (first | rfl | exact (Row.eq _).trans rfl)) | (refine fill_init ?_; (first | rfl | exact (Row.eq _).trans rfl)) | (show (_ : St) = _; rfl) | grind [wR_eq, wS, snocI, snocS, rowSnoc]))
abbrev P_c_toRulesS (L : List Rules) : Prop := CallOK Tryz.prog 86 [] [ll (L.map rulesC)] [.arr true 3 (L.map rulesC)] (.sv (.one (.ref 0)))
def Tc_toRulesSLa (L : List Rules) (x0 : SV) (x1 : Ob) : St := St.mk (regsOf 23 [(0, AV.sv (ll (List.map rulesC L))), (3, AV.sv (SV.one (AC.ref 0))), (4, AV.sv x0)]) [x1] 0 
def Lc_toRulesSLa (L : List Rules) (k : Nat) : St := Tc_toRulesSLa L (li (↑k : Int)) (Ob.arr true 3 (List.map rulesC (fillTo L k))) 
def Ic_toRulesSLa (L : List Rules) : Nat → St → Prop := Head (Lc_toRulesSLa L) (fun k => k ≤ List.length L ∧ List.length L ≤ 9223372036854775807) fun k => List.length L - k 
def W0c_toRulesSLa (L : List Rules) (x0 : Ob) : St := St.mk (regsOf 23 [(3, AV.sv (SV.one (AC.ref 0)))]) [x0] 0 
def Yc_toRulesSLa (L : List Rules) : List (Prop × AEx × St) := [(True, AEx.exit 0, W0c_toRulesSLa L (Ob.arr true 3 (List.map rulesC L)))]
theorem Hc_toRulesSLa {L : List Rules} {k : Nat} {m : Nat} (h : (fun k => k ≤ List.length L ∧ List.length L ≤ 9223372036854775807) k) (hm : (fun k => List.length L - k) k = m) :
 Ic_toRulesSLa L m (Lc_toRulesSLa L k) := hm ▸ Head.mk h
theorem Ec_toRulesSLa {L : List Rules} {k : Nat} {x0 : SV} {x1 : Ob} (h0 : x0 = (li (↑k : Int))) (h1 : x1 = (Ob.arr true 3 (List.map rulesC (fillTo L k)))) : Tc_toRulesSLa L x0 x1
 = Lc_toRulesSLa L k := by
  rw [h0, h1]
  rfl
theorem EW0c_toRulesSLa {L : List Rules} {x0 y0 : Ob} (h0 : x0 = y0) : W0c_toRulesSLa L x0 = W0c_toRulesSLa L y0 := by rw [h0]
theorem run_c_toRulesSLa (L : List Rules) (k : Nat) : aexec Tryz.prog (loopAt Tryz.f86 0) (Lc_toRulesSLa L k) [Orc.br [Orc.cells (rulesF (List.getD L k default)), Orc.call
 [Mode.rd] (rulesO (List.getD L k default)) (AV.sv (rulesR (List.getD L k default) 0)), Orc.cells (rulesF (List.getD (fillTo L k) (Int.toNat (↑k : Int)) default)), Orc.ghost
 (Ghost.sel [0] [0, 3, 4]), Orc.goto (List.length L - (k + 1)) (Lc_toRulesSLa L (k + 1))] [Orc.ghost (Ghost.sel [0] [3]), Orc.out 0]] (loopK (Ic_toRulesSLa L) (Yc_toRulesSLa L)
 (List.length L - k)) = (List.length (List.map rulesC L) ≤ 9223372036854775807 → (decide ((↑k : Int) < (↑(List.length (List.map rulesC L)) : Int)) = true → (0 ≤ (↑k : Int) ∧
 (List.map rulesC L)[Int.toNat (↑k : Int)]? = some (rulesF (List.getD L k default))) ∧ P_c_toRules (List.getD L k default) ∧ (0 ≤ (↑k : Int) ∧ Int.toNat (↑k : Int) < List.length
 (List.map rulesC (fillTo L k))) ∧ (List.map rulesC (fillTo L k))[Int.toNat (↑k : Int)]? = some (rulesF (List.getD (fillTo L k) (Int.toNat (↑k : Int)) default)) ∧ rng IntKind.i64
 ((↑k : Int) + 1) ∧ List.length L - (k + 1) < List.length L - k ∧ Tc_toRulesSLa L (li ((↑k : Int) + 1)) (Ob.arr true 3 (List.set (List.map rulesC (fillTo L k)) (Int.toNat (↑k :
 Int)) (rulesF (List.getD L k default)))) = Lc_toRulesSLa L (k + 1) ∧ Ic_toRulesSLa L (List.length L - (k + 1)) (Lc_toRulesSLa L (k + 1))) ∧ (decide ((↑k : Int) < (↑(List.length
 (List.map rulesC L)) : Int)) = false → True ∧ W0c_toRulesSLa L (Ob.arr true 3 (List.map rulesC (fillTo L k))) = W0c_toRulesSLa L (Ob.arr true 3 (List.map rulesC L)))) := by
 kernel_rfl
theorem Sc_toRulesSLa (L : List Rules) (h : List.length L + sumBy wR L ≤ 1048576)  : LoopSem Tryz.prog (loopAt Tryz.f86 0) (Ic_toRulesSLa L) (Yc_toRulesSLa L) := by
  refine LoopSem.ofHead wide fun k h => ⟨_, _, run_c_toRulesSLa L k, ?_⟩
  with_reducible repeat' (first | apply And.intro | exact flatI | exact flatS | exact rowLens | (intro; skip) | apply obsN | apply obsC | apply obA | apply obM | apply obB | apply svA | apply tupA | apply lcA | apply lcS | apply svC | apply liC | apply lbC | apply lsC | apply vIc | apply vBc | apply vSc | apply vLc | apply mapC | apply Hc_toRulesSLa | apply Ec_toRulesSLa | apply EW0c_toRulesSLa | apply c_toRules)
  all_goals (try simp only [std] at *)
  all_goals (try (first | with_reducible apply c_toRules | (simp only [← List.map_append]; first | with_reducible apply c_toRules)))
  all_goals (try (first | with_reducible rfl | omega | assumption | (refine (decide_eq_true ?_).symm; assumption) | (refine (decide_eq_false ?_).symm; assumption) | (refine rowGet ?_; (first | omega | (simp only [std]; omega) | grind)) | (refine getC ?_ rfl; (first | omega | (simp only [std]; omega) | grind)) | (refine fill_step ?_ ?_; (first | omega | (simp only [std]; omega) | grind); (first | rfl | exact (Row.eq _).trans rfl)) | (refine fill_init ?_; (first | rfl | exact (Row.eq _).trans rfl)) | (show (_ : St) = _; rfl) | grind [fillTo_all, getD_mem', sumBy_mem, snocI, snocS, rowSnoc]))
theorem run_c_toRulesS (L : List Rules) : aexec Tryz.prog (Option.getD (Func.body Tryz.f86) Code.skip) (entry [] [ll (List.map rulesC L)] 23) [Orc.ghost (Ghost.sel [0] [0, 3, 4]),
 Orc.loop (List.length L - 0) (Lc_toRulesSLa L 0) (Ic_toRulesSLa L) [(True, AEx.exit 0, W0c_toRulesSLa L (Ob.arr true 3 (List.map rulesC L)), [Orc.fin [0]])]] (finK Tryz.prog
 [ResultVar.tmp 2] [Ob.arr true 3 (List.map rulesC L)] (AV.sv (SV.one (AC.ref 0)))) = (List.length (List.map rulesC L) ≤ 9223372036854775807 → (0 ≤ (↑(List.length (List.map rulesC
 L)) : Int) ∧ 72 * Int.toNat (↑(List.length (List.map rulesC L)) : Int) ≤ 281474976710656) ∧ Tc_toRulesSLa L (li 0) (Ob.arr true 3 (List.replicate (Int.toNat (↑(List.length
 (List.map rulesC L)) : Int)) [Cell.list [], Cell.list [], Cell.list []])) = Lc_toRulesSLa L 0 ∧ Ic_toRulesSLa L (List.length L - 0) (Lc_toRulesSLa L 0) ∧ LoopSem Tryz.prog (loopAt
 Tryz.f86 0) (Ic_toRulesSLa L) (Yc_toRulesSLa L) ∧ (True → ObsEq [Ob.arr true 3 (List.map rulesC L)] [Ob.arr true 3 (List.map rulesC L)] ∧ AV.sv (SV.one (AC.ref 0)) = AV.sv (SV.one
 (AC.ref 0))) ∧ True) := by kernel_rfl
theorem c_toRulesS (L : List Rules) (h : L.length + sumBy wR L ≤ 1048576)  : P_c_toRulesS L := by
  refine CallOK.ofRun wide (run_c_toRulesS L) Tryz.call86 Tryz.func86 rfl rfl rfl ?_
  with_reducible repeat' (first | apply And.intro | exact flatI | exact flatS | exact rowLens | (intro; skip) | apply obsN | apply obsC | apply obA | apply obM | apply obB | apply svA | apply tupA | apply lcA | apply lcS | apply svC | apply liC | apply lbC | apply lsC | apply vIc | apply vBc | apply vSc | apply vLc | apply mapC | apply Hc_toRulesSLa | apply Ec_toRulesSLa | apply Sc_toRulesSLa | apply EW0c_toRulesSLa | apply c_toRules)
  all_goals (try simp only [std] at *)
  all_goals (try (first | with_reducible apply c_toRules | (simp only [← List.map_append]; first | with_reducible apply c_toRules)))
  all_goals (try (first | with_reducible rfl | omega | assumption | (refine (decide_eq_true ?_).symm; assumption) | (refine (decide_eq_false ?_).symm; assumption) | (refine rowGet ?_; (first | omega | (simp only [std]; omega) | grind)) | (refine getC ?_ rfl; (first | omega | (simp only [std]; omega) | grind)) | (refine fill_step ?_ ?_; (first | omega | (simp only [std]; omega) | grind); (first | rfl | exact (Row.eq _).trans rfl)) | (refine fill_init ?_; (first | rfl | exact (Row.eq _).trans rfl)) | (show (_ : St) = _; rfl) | grind [snocI, snocS, rowSnoc]))
abbrev P_c_toExpander (x : Expander) : Prop := CallOK Tryz.prog 22 [] [expanderA x] (expanderO x) (.sv (expanderR x 0))
theorem run_c_toExpander (x : Expander) : aexec Tryz.prog (Option.getD (Func.body Tryz.f22) Code.skip) (entry [] [expanderA x] 22) [Orc.call [Mode.rd] [Ob.arr true 4 (List.map
 bindingC (Expander.bindings x))] (AV.sv (SV.one (AC.ref 0))), Orc.call [Mode.rd] [Ob.arr true 3 (List.map rulesC (Expander.macros x))] (AV.sv (SV.one (AC.ref 0))), Orc.fin [3, 4]]
 (finK Tryz.prog [ResultVar.cell 2 49] (expanderO x) (AV.sv (expanderR x 0))) = (P_c_toBindingS (Expander.bindings x) ∧ P_c_toRulesS (Expander.macros x) ∧ ObsEq [Ob.arr true 4
 (List.map bindingC (Expander.bindings x)), Ob.arr true 3 (List.map rulesC (Expander.macros x))] [Ob.arr true 4 (List.map bindingC (Expander.bindings x)), Ob.arr true 3 (List.map
 rulesC (Expander.macros x))] ∧ AV.sv (SV.agg [AC.ref 0, AC.ref 1, vI (Expander.scope x), vI (Expander.vari x), vI (Expander.steps x)]) = AV.sv (SV.agg [AC.ref 0, AC.ref 1, vI
 (Expander.scope x), vI (Expander.vari x), vI (Expander.steps x)])) := by kernel_rfl
theorem c_toExpander (x : Expander) (h : wX x ≤ 1048576)  : P_c_toExpander x := by
  refine CallOK.ofRun wide (run_c_toExpander x) Tryz.call22 Tryz.func22 rfl rfl rfl ?_
  with_reducible repeat' (first | apply And.intro | exact flatI | exact flatS | exact rowLens | (intro; skip) | apply obsN | apply obsC | apply obA | apply obM | apply obB | apply svA | apply tupA | apply lcA | apply lcS | apply svC | apply liC | apply lbC | apply lsC | apply vIc | apply vBc | apply vSc | apply vLc | apply mapC | apply c_toBindingS | apply c_toRulesS)
  all_goals (try simp only [std] at *)
  all_goals (try (first | with_reducible apply c_toBindingS | with_reducible apply c_toRulesS | (simp only [← List.map_append]; first | with_reducible apply c_toBindingS | with_reducible apply c_toRulesS)))
  all_goals (try (first | with_reducible rfl | omega | assumption | (refine (decide_eq_true ?_).symm; assumption) | (refine (decide_eq_false ?_).symm; assumption) | (refine rowGet ?_; (first | omega | (simp only [std]; omega) | grind)) | (refine getC ?_ rfl; (first | omega | (simp only [std]; omega) | grind)) | (refine fill_step ?_ ?_; (first | omega | (simp only [std]; omega) | grind); (first | rfl | exact (Row.eq _).trans rfl)) | (refine fill_init ?_; (first | rfl | exact (Row.eq _).trans rfl)) | (show (_ : St) = _; rfl) | grind [wX_eq, wS, snocI, snocS, rowSnoc]))
end Go.Proofs.YtegbadciefljcaaGreat
end
section
namespace Go.Proofs.YtegbadciefljcaaGreat
open Go Go.Proofs.YtegbadciefljcaaGreat.Ab
set_option linter.unusedVariables false
set_option linter.unusedSimpArgs false
set_option maxHeartbeats 4000000
abbrev P_c_eqIntS (A : List Int) (B : List Int) : Prop := CallOK Tryz.prog 69 [] [ll (A.map intC), ll (B.map intC)] [] (.sv (lb (decide (A = B))))
def Tc_eqIntSLa (A : List Int) (B : List Int) (x0 : SV) : St := St.mk (regsOf 26 [(0, AV.sv (ll (List.map intC A))), (1, AV.sv (ll (List.map intC B))), (5, AV.sv x0)]) [] 0 
def Lc_eqIntSLa (A : List Int) (B : List Int) (k : Nat) : St := Tc_eqIntSLa A B (li (↑k : Int)) 
def Ic_eqIntSLa (A : List Int) (B : List Int) : Nat → St → Prop := Head (Lc_eqIntSLa A B) (fun k => k ≤ List.length A ∧ List.length A ≤ 9223372036854775807 ∧ List.length A =
 List.length B ∧ List.take k A = List.take k B) fun k => List.length A - k 
def W0c_eqIntSLa (A : List Int) (B : List Int) : St := St.mk (regsOf 26 []) [] 0 
def W1c_eqIntSLa (A : List Int) (B : List Int) (x0 : SV) : St := St.mk (regsOf 26 [(4, AV.sv x0)]) [] 0 
def Yc_eqIntSLa (A : List Int) (B : List Int) : List (Prop × AEx × St) := [(A = B, AEx.exit 0, W0c_eqIntSLa A B), (A ≠ B, AEx.ret, W1c_eqIntSLa A B (lb false))]
theorem Hc_eqIntSLa {A : List Int} {B : List Int} {k : Nat} {m : Nat} (h : (fun k => k ≤ List.length A ∧ List.length A ≤ 9223372036854775807 ∧ List.length A = List.length B ∧
 List.take k A = List.take k B) k) (hm : (fun k => List.length A - k) k = m) : Ic_eqIntSLa A B m (Lc_eqIntSLa A B k) := hm ▸ Head.mk h
theorem Ec_eqIntSLa {A : List Int} {B : List Int} {k : Nat} {x0 : SV} (h0 : x0 = (li (↑k : Int))) : Tc_eqIntSLa A B x0 = Lc_eqIntSLa A B k := by
  rw [h0]
  rfl
theorem EW1c_eqIntSLa {A : List Int} {B : List Int} {x0 y0 : SV} (h0 : x0 = y0) : W1c_eqIntSLa A B x0 = W1c_eqIntSLa A B y0 := by rw [h0]
theorem run_c_eqIntSLa (A : List Int) (B : List Int) (k : Nat) : aexec Tryz.prog (loopAt Tryz.f69 0) (Lc_eqIntSLa A B k) [Orc.br [Orc.draw [], Orc.cells (intC (List.getD A k
 default)), Orc.cells (intC (List.getD B k default)), Orc.br [Orc.ghost (Ghost.sel [] [4]), Orc.out 1] [Orc.ghost (Ghost.sel [] [0, 1, 5]), Orc.goto (List.length A - (k + 1))
 (Lc_eqIntSLa A B (k + 1))]] [Orc.ghost (Ghost.sel [] []), Orc.out 0]] (loopK (Ic_eqIntSLa A B) (Yc_eqIntSLa A B) (List.length A - k)) = (List.length (List.map intC A) ≤
 9223372036854775807 → (decide ((↑k : Int) < (↑(List.length (List.map intC A)) : Int)) = true → (0 ≤ (↑k : Int) ∧ (List.map intC A)[Int.toNat (↑k : Int)]? = some [cI (List.getD A k
 0)]) ∧ (0 ≤ (↑k : Int) ∧ (List.map intC B)[Int.toNat (↑k : Int)]? = some [cI (List.getD B k 0)]) ∧ (decide (List.getD A k (0 : Int) ≠ List.getD B k 0) = true → A ≠ B ∧
 W1c_eqIntSLa A B (lb false) = W1c_eqIntSLa A B (lb false)) ∧ (decide (List.getD A k (0 : Int) ≠ List.getD B k 0) = false → rng IntKind.i64 ((↑k : Int) + 1) ∧ List.length A - (k +
 1) < List.length A - k ∧ Tc_eqIntSLa A B (li ((↑k : Int) + 1)) = Lc_eqIntSLa A B (k + 1) ∧ Ic_eqIntSLa A B (List.length A - (k + 1)) (Lc_eqIntSLa A B (k + 1)))) ∧ (decide ((↑k :
 Int) < (↑(List.length (List.map intC A)) : Int)) = false → A = B ∧ W0c_eqIntSLa A B = W0c_eqIntSLa A B)) := by kernel_rfl
theorem Sc_eqIntSLa (A : List Int) (B : List Int)  : LoopSem Tryz.prog (loopAt Tryz.f69 0) (Ic_eqIntSLa A B) (Yc_eqIntSLa A B) := by
  refine LoopSem.ofHead wide fun k h => ⟨_, _, run_c_eqIntSLa A B k, ?_⟩
  with_reducible repeat' (first | apply And.intro | exact flatI | exact flatS | exact rowLens | (intro; skip) | apply obsN | apply obsC | apply obA | apply obM | apply obB | apply svA | apply tupA | apply lcA | apply lcS | apply svC | apply liC | apply lbC | apply lsC | apply vIc | apply vBc | apply vSc | apply vLc | apply mapC | apply Hc_eqIntSLa | apply Ec_eqIntSLa | apply EW1c_eqIntSLa)
  all_goals (try simp only [std] at *)
  all_goals (try (first | with_reducible rfl | omega | assumption | (refine (decide_eq_true ?_).symm; assumption) | (refine (decide_eq_false ?_).symm; assumption) | (refine rowGet ?_; (first | omega | (simp only [std]; omega) | grind)) | (refine getC ?_ rfl; (first | omega | (simp only [std]; omega) | grind)) | (refine fill_step ?_ ?_; (first | omega | (simp only [std]; omega) | grind); (first | rfl | exact (Row.eq _).trans rfl)) | (refine fill_init ?_; (first | rfl | exact (Row.eq _).trans rfl)) | (show (_ : St) = _; rfl) | grind [take_eq, snocI, snocS, rowSnoc]))
theorem run_c_eqIntS (A : List Int) (B : List Int) : aexec Tryz.prog (Option.getD (Func.body Tryz.f69) Code.skip) (entry [] [ll (List.map intC A), ll (List.map intC B)] 26) [Orc.br
 [Orc.fin []] [Orc.ghost (Ghost.sel [] [0, 1, 5]), Orc.loop (List.length A - 0) (Lc_eqIntSLa A B 0) (Ic_eqIntSLa A B) [(A = B, AEx.exit 0, W0c_eqIntSLa A B, [Orc.fin []]), (A ≠ B,
 AEx.ret, W1c_eqIntSLa A B (lb false), [Orc.fin []])]]] (finK Tryz.prog [ResultVar.tmp 4] [] (AV.sv (lb (decide (A = B))))) = (List.length (List.map intC A) ≤ 9223372036854775807 →
 List.length (List.map intC B) ≤ 9223372036854775807 → (decide ((↑(List.length (List.map intC A)) : Int) ≠ (↑(List.length (List.map intC B)) : Int)) = true → ObsEq [] [] ∧ AV.sv
 (lb false) = AV.sv (lb (decide (A = B)))) ∧ (decide ((↑(List.length (List.map intC A)) : Int) ≠ (↑(List.length (List.map intC B)) : Int)) = false → Tc_eqIntSLa A B (li 0) =
 Lc_eqIntSLa A B 0 ∧ Ic_eqIntSLa A B (List.length A - 0) (Lc_eqIntSLa A B 0) ∧ LoopSem Tryz.prog (loopAt Tryz.f69 0) (Ic_eqIntSLa A B) (Yc_eqIntSLa A B) ∧ (A = B → ObsEq [] [] ∧
 AV.sv (lb true) = AV.sv (lb (decide (A = B)))) ∧ ((A = B → False) → ObsEq [] [] ∧ AV.sv (lb false) = AV.sv (lb (decide (A = B)))) ∧ True)) := by kernel_rfl
theorem c_eqIntS (A B : List Int)  : P_c_eqIntS A B := by
  refine CallOK.ofRun wide (run_c_eqIntS A B) Tryz.call69 Tryz.func69 rfl rfl rfl ?_
  with_reducible repeat' (first | apply And.intro | exact flatI | exact flatS | exact rowLens | (intro; skip) | apply obsN | apply obsC | apply obA | apply obM | apply obB | apply svA | apply tupA | apply lcA | apply lcS | apply svC | apply liC | apply lbC | apply lsC | apply vIc | apply vBc | apply vSc | apply vLc | apply mapC | apply Hc_eqIntSLa | apply Ec_eqIntSLa | apply Sc_eqIntSLa | apply EW1c_eqIntSLa)
  all_goals (try simp only [std] at *)
  all_goals (try (first | with_reducible rfl | omega | assumption | (refine (decide_eq_true ?_).symm; assumption) | (refine (decide_eq_false ?_).symm; assumption) | (refine rowGet ?_; (first | omega | (simp only [std]; omega) | grind)) | (refine getC ?_ rfl; (first | omega | (simp only [std]; omega) | grind)) | (refine fill_step ?_ ?_; (first | omega | (simp only [std]; omega) | grind); (first | rfl | exact (Row.eq _).trans rfl)) | (refine fill_init ?_; (first | rfl | exact (Row.eq _).trans rfl)) | (show (_ : St) = _; rfl) | grind [snocI, snocS, rowSnoc]))
abbrev P_c_eqSyntaxS (A : List Syntax) (B : List Syntax) : Prop := CallOK Tryz.prog 35 [] [ll (A.map syntaxC), ll (B.map syntaxC)] [] (.sv (lb (decide (A = B))))
abbrev P_c_eqSyntax (x : Syntax) (y : Syntax) : Prop := CallOK Tryz.prog 36 [] [syntaxA x, syntaxA y] [] (.sv (lb (decide (x = y))))
def Tc_eqSyntaxSLa (A : List Syntax) (B : List Syntax) (x0 : SV) : St := St.mk (regsOf 27 [(0, AV.sv (ll (List.map syntaxC A))), (1, AV.sv (ll (List.map syntaxC B))), (5, AV.sv
 x0)]) [] 0 
def Lc_eqSyntaxSLa (A : List Syntax) (B : List Syntax) (k : Nat) : St := Tc_eqSyntaxSLa A B (li (↑k : Int)) 
def Ic_eqSyntaxSLa (A : List Syntax) (B : List Syntax) : Nat → St → Prop := Head (Lc_eqSyntaxSLa A B) (fun k => k ≤ List.length A ∧ List.length A ≤ 9223372036854775807 ∧
 List.length A = List.length B ∧ List.take k A = List.take k B) fun k => List.length A - k 
def W0c_eqSyntaxSLa (A : List Syntax) (B : List Syntax) : St := St.mk (regsOf 27 []) [] 0 
def W1c_eqSyntaxSLa (A : List Syntax) (B : List Syntax) (x0 : SV) : St := St.mk (regsOf 27 [(4, AV.sv x0)]) [] 0 
def Yc_eqSyntaxSLa (A : List Syntax) (B : List Syntax) : List (Prop × AEx × St) := [(A = B, AEx.exit 0, W0c_eqSyntaxSLa A B), (A ≠ B, AEx.ret, W1c_eqSyntaxSLa A B (lb false))]
theorem Hc_eqSyntaxSLa {A : List Syntax} {B : List Syntax} {k : Nat} {m : Nat} (h : (fun k => k ≤ List.length A ∧ List.length A ≤ 9223372036854775807 ∧ List.length A = List.length
 B ∧ List.take k A = List.take k B) k) (hm : (fun k => List.length A - k) k = m) : Ic_eqSyntaxSLa A B m (Lc_eqSyntaxSLa A B k) := hm ▸ Head.mk h
theorem Ec_eqSyntaxSLa {A : List Syntax} {B : List Syntax} {k : Nat} {x0 : SV} (h0 : x0 = (li (↑k : Int))) : Tc_eqSyntaxSLa A B x0 = Lc_eqSyntaxSLa A B k := by
  rw [h0]
  rfl
theorem EW1c_eqSyntaxSLa {A : List Syntax} {B : List Syntax} {x0 y0 : SV} (h0 : x0 = y0) : W1c_eqSyntaxSLa A B x0 = W1c_eqSyntaxSLa A B y0 := by rw [h0]
theorem run_c_eqSyntaxSLa (A : List Syntax) (B : List Syntax) (k : Nat) : aexec Tryz.prog (loopAt Tryz.f35 0) (Lc_eqSyntaxSLa A B k) [Orc.br [Orc.draw [], Orc.cells (syntaxF
 (List.getD A k default)), Orc.cells (syntaxF (List.getD B k default)), Orc.call [Mode.rd, Mode.rd] [] (AV.sv (lb (decide (List.getD A k default = List.getD B k default)))), Orc.br
 [Orc.ghost (Ghost.sel [] [4]), Orc.out 1] [Orc.ghost (Ghost.sel [] [0, 1, 5]), Orc.goto (List.length A - (k + 1)) (Lc_eqSyntaxSLa A B (k + 1))]] [Orc.ghost (Ghost.sel [] []),
 Orc.out 0]] (loopK (Ic_eqSyntaxSLa A B) (Yc_eqSyntaxSLa A B) (List.length A - k)) = (List.length (List.map syntaxC A) ≤ 9223372036854775807 → (decide ((↑k : Int) < (↑(List.length
 (List.map syntaxC A)) : Int)) = true → (0 ≤ (↑k : Int) ∧ (List.map syntaxC A)[Int.toNat (↑k : Int)]? = some (syntaxF (List.getD A k default))) ∧ (0 ≤ (↑k : Int) ∧ (List.map
 syntaxC B)[Int.toNat (↑k : Int)]? = some (syntaxF (List.getD B k default))) ∧ P_c_eqSyntax (List.getD A k default) (List.getD B k default) ∧ ((!decide (List.getD A k default =
 List.getD B k default)) = true → A ≠ B ∧ W1c_eqSyntaxSLa A B (lb false) = W1c_eqSyntaxSLa A B (lb false)) ∧ ((!decide (List.getD A k default = List.getD B k default)) = false →
 rng IntKind.i64 ((↑k : Int) + 1) ∧ List.length A - (k + 1) < List.length A - k ∧ Tc_eqSyntaxSLa A B (li ((↑k : Int) + 1)) = Lc_eqSyntaxSLa A B (k + 1) ∧ Ic_eqSyntaxSLa A B
 (List.length A - (k + 1)) (Lc_eqSyntaxSLa A B (k + 1)))) ∧ (decide ((↑k : Int) < (↑(List.length (List.map syntaxC A)) : Int)) = false → A = B ∧ W0c_eqSyntaxSLa A B =
 W0c_eqSyntaxSLa A B)) := by kernel_rfl
theorem Sc_eqSyntaxSLa (A : List Syntax) (B : List Syntax) (ih : ∀ (x : Syntax), x ∈ A → ∀ (y : Syntax), P_c_eqSyntax x y)  : LoopSem Tryz.prog (loopAt Tryz.f35 0) (Ic_eqSyntaxSLa
 A B) (Yc_eqSyntaxSLa A B) := by
  refine LoopSem.ofHead wide fun k h => ⟨_, _, run_c_eqSyntaxSLa A B k, ?_⟩
  with_reducible repeat' (first | apply And.intro | exact flatI | exact flatS | exact rowLens | exact ih | (intro; skip) | apply obsN | apply obsC | apply obA | apply obM | apply obB | apply svA | apply tupA | apply lcA | apply lcS | apply svC | apply liC | apply lbC | apply lsC | apply vIc | apply vBc | apply vSc | apply vLc | apply mapC | apply Hc_eqSyntaxSLa | apply Ec_eqSyntaxSLa | apply EW1c_eqSyntaxSLa | apply ih)
  all_goals (try simp only [std] at *)
  all_goals (try (first | with_reducible apply ih | (simp only [← List.map_append]; first | with_reducible apply ih)))
  all_goals (try (first | with_reducible rfl | omega | assumption | (refine (decide_eq_true ?_).symm; assumption) | (refine (decide_eq_false ?_).symm; assumption) | (refine rowGet ?_; (first | omega | (simp only [std]; omega) | grind)) | (refine getC ?_ rfl; (first | omega | (simp only [std]; omega) | grind)) | (refine fill_step ?_ ?_; (first | omega | (simp only [std]; omega) | grind); (first | rfl | exact (Row.eq _).trans rfl)) | (refine fill_init ?_; (first | rfl | exact (Row.eq _).trans rfl)) | (show (_ : St) = _; rfl) | grind [take_eq, getD_mem', snocI, snocS, rowSnoc]))
theorem run_c_eqSyntaxS (A : List Syntax) (B : List Syntax) : aexec Tryz.prog (Option.getD (Func.body Tryz.f35) Code.skip) (entry [] [ll (List.map syntaxC A), ll (List.map syntaxC
 B)] 27) [Orc.br [Orc.fin []] [Orc.ghost (Ghost.sel [] [0, 1, 5]), Orc.loop (List.length A - 0) (Lc_eqSyntaxSLa A B 0) (Ic_eqSyntaxSLa A B) [(A = B, AEx.exit 0, W0c_eqSyntaxSLa A
 B, [Orc.fin []]), (A ≠ B, AEx.ret, W1c_eqSyntaxSLa A B (lb false), [Orc.fin []])]]] (finK Tryz.prog [ResultVar.tmp 4] [] (AV.sv (lb (decide (A = B))))) = (List.length (List.map
 syntaxC A) ≤ 9223372036854775807 → List.length (List.map syntaxC B) ≤ 9223372036854775807 → (decide ((↑(List.length (List.map syntaxC A)) : Int) ≠ (↑(List.length (List.map syntaxC
 B)) : Int)) = true → ObsEq [] [] ∧ AV.sv (lb false) = AV.sv (lb (decide (A = B)))) ∧ (decide ((↑(List.length (List.map syntaxC A)) : Int) ≠ (↑(List.length (List.map syntaxC B)) :
 Int)) = false → Tc_eqSyntaxSLa A B (li 0) = Lc_eqSyntaxSLa A B 0 ∧ Ic_eqSyntaxSLa A B (List.length A - 0) (Lc_eqSyntaxSLa A B 0) ∧ LoopSem Tryz.prog (loopAt Tryz.f35 0)
 (Ic_eqSyntaxSLa A B) (Yc_eqSyntaxSLa A B) ∧ (A = B → ObsEq [] [] ∧ AV.sv (lb true) = AV.sv (lb (decide (A = B)))) ∧ ((A = B → False) → ObsEq [] [] ∧ AV.sv (lb false) = AV.sv (lb
 (decide (A = B)))) ∧ True)) := by kernel_rfl
theorem c_eqSyntaxS (A B : List Syntax) (ih : ∀ x ∈ A, ∀ (y : Syntax), P_c_eqSyntax x y)  : P_c_eqSyntaxS A B := by
  refine CallOK.ofRun wide (run_c_eqSyntaxS A B) Tryz.call35 Tryz.func35 rfl rfl rfl ?_
  with_reducible repeat' (first | apply And.intro | exact flatI | exact flatS | exact rowLens | exact ih | (intro; skip) | apply obsN | apply obsC | apply obA | apply obM | apply obB | apply svA | apply tupA | apply lcA | apply lcS | apply svC | apply liC | apply lbC | apply lsC | apply vIc | apply vBc | apply vSc | apply vLc | apply mapC | apply Hc_eqSyntaxSLa | apply Ec_eqSyntaxSLa | apply Sc_eqSyntaxSLa | apply EW1c_eqSyntaxSLa)
  all_goals (try simp only [std] at *)
  all_goals (try (first | with_reducible apply ih | (simp only [← List.map_append]; first | with_reducible apply ih)))
  all_goals (try (first | with_reducible rfl | omega | assumption | (refine (decide_eq_true ?_).symm; assumption) | (refine (decide_eq_false ?_).symm; assumption) | (refine rowGet ?_; (first | omega | (simp only [std]; omega) | grind)) | (refine getC ?_ rfl; (first | omega | (simp only [std]; omega) | grind)) | (refine fill_step ?_ ?_; (first | omega | (simp only [std]; omega) | grind); (first | rfl | exact (Row.eq _).trans rfl)) | (refine fill_init ?_; (first | rfl | exact (Row.eq _).trans rfl)) | (show (_ : St) = _; rfl) | grind [snocI, snocS, rowSnoc]))
theorem run_c_eqSyntax_s (x : Syntax) (y : Syntax) : aexec Tryz.prog (Option.getD (Func.body Tryz.f36) Code.skip) (entry [] [syntaxA x, syntaxA y] 32) [Orc.br [Orc.fin []] [Orc.br
 [Orc.fin []] [Orc.br [Orc.fin []] [Orc.call [Mode.rd, Mode.rd] [] (AV.sv (lb (decide (Syntax.scopes x = Syntax.scopes y)))), Orc.br [Orc.fin []] [Orc.call [Mode.rd, Mode.rd] []
 (AV.sv (lb (decide (Syntax.items x = Syntax.items y)))), Orc.br [Orc.fin []] [Orc.fin []]]]]]] (finK Tryz.prog [ResultVar.tmp 4] [] (AV.sv (lb (decide (x = y))))) = ((decide
 (Syntax.kind x ≠ Syntax.kind y) = true → ObsEq [] [] ∧ AV.sv (lb false) = AV.sv (lb (decide (x = y)))) ∧ (decide (Syntax.kind x ≠ Syntax.kind y) = false → (decide (Syntax.number x
 ≠ Syntax.number y) = true → ObsEq [] [] ∧ AV.sv (lb false) = AV.sv (lb (decide (x = y)))) ∧ (decide (Syntax.number x ≠ Syntax.number y) = false → (decide (Array.toList
 (ByteArray.data (Syntax.text x)) ≠ Array.toList (ByteArray.data (Syntax.text y))) = true → ObsEq [] [] ∧ AV.sv (lb false) = AV.sv (lb (decide (x = y)))) ∧ (decide (Array.toList
 (ByteArray.data (Syntax.text x)) ≠ Array.toList (ByteArray.data (Syntax.text y))) = false → P_c_eqIntS (Syntax.scopes x) (Syntax.scopes y) ∧ ((!decide (Syntax.scopes x =
 Syntax.scopes y)) = true → ObsEq [] [] ∧ AV.sv (lb false) = AV.sv (lb (decide (x = y)))) ∧ ((!decide (Syntax.scopes x = Syntax.scopes y)) = false → P_c_eqSyntaxS (Syntax.items x)
 (Syntax.items y) ∧ ((!decide (Syntax.items x = Syntax.items y)) = true → ObsEq [] [] ∧ AV.sv (lb false) = AV.sv (lb (decide (x = y)))) ∧ ((!decide (Syntax.items x = Syntax.items
 y)) = false → ObsEq [] [] ∧ AV.sv (lb true) = AV.sv (lb (decide (x = y))))))))) := by kernel_rfl
theorem c_eqSyntax_s (x y : Syntax) (ih : ∀ z ∈ x.items, ∀ (y : Syntax), P_c_eqSyntax z y)  : P_c_eqSyntax x y := by
  refine CallOK.ofRun wide (run_c_eqSyntax_s x y) Tryz.call36 Tryz.func36 rfl rfl rfl ?_
  simp only [syntaxExt]
  with_reducible repeat' (first | apply And.intro | exact flatI | exact flatS | exact rowLens | exact ih | (intro; skip) | apply obsN | apply obsC | apply obA | apply obM | apply obB | apply svA | apply tupA | apply lcA | apply lcS | apply svC | apply liC | apply lbC | apply lsC | apply vIc | apply vBc | apply vSc | apply vLc | apply mapC | apply c_eqIntS | apply c_eqSyntaxS | apply ih)
  all_goals (try simp only [std] at *)
  all_goals (try (first | with_reducible apply c_eqIntS | with_reducible apply c_eqSyntaxS | with_reducible apply ih | (simp only [← List.map_append]; first | with_reducible apply c_eqIntS | with_reducible apply c_eqSyntaxS | with_reducible apply ih)))
  all_goals (try (first | with_reducible rfl | omega | assumption | (refine (decide_eq_true ?_).symm; assumption) | (refine (decide_eq_false ?_).symm; assumption) | (refine rowGet ?_; (first | omega | (simp only [std]; omega) | grind)) | (refine getC ?_ rfl; (first | omega | (simp only [std]; omega) | grind)) | (refine fill_step ?_ ?_; (first | omega | (simp only [std]; omega) | grind); (first | rfl | exact (Row.eq _).trans rfl)) | (refine fill_init ?_; (first | rfl | exact (Row.eq _).trans rfl)) | (show (_ : St) = _; rfl) | grind [bytes_ext, snocI, snocS, rowSnoc]))
theorem c_eqSyntax (x : Syntax) : ∀ (y : Syntax), P_c_eqSyntax x y := Syntax.ind (P := fun x => ∀ (y : Syntax), P_c_eqSyntax x y) (fun x ih y => c_eqSyntax_s x y ih) x
abbrev P_c_eqBinding (x : Binding) (y : Binding) : Prop := CallOK Tryz.prog 102 [] [bindingA x, bindingA y] [] (.sv (lb (decide (x = y))))
theorem run_c_eqBinding (x : Binding) (y : Binding) : aexec Tryz.prog (Option.getD (Func.body Tryz.f102) Code.skip) (entry [] [bindingA x, bindingA y] 26) [Orc.br [Orc.fin []]
 [Orc.call [Mode.rd, Mode.rd] [] (AV.sv (lb (decide (Binding.scopes x = Binding.scopes y)))), Orc.br [Orc.fin []] [Orc.br [Orc.fin []] [Orc.br [Orc.fin []] [Orc.fin []]]]]] (finK
 Tryz.prog [ResultVar.tmp 4] [] (AV.sv (lb (decide (x = y))))) = ((decide (Array.toList (ByteArray.data (Binding.text x)) ≠ Array.toList (ByteArray.data (Binding.text y))) = true →
 ObsEq [] [] ∧ AV.sv (lb false) = AV.sv (lb (decide (x = y)))) ∧ (decide (Array.toList (ByteArray.data (Binding.text x)) ≠ Array.toList (ByteArray.data (Binding.text y))) = false →
 P_c_eqIntS (Binding.scopes x) (Binding.scopes y) ∧ ((!decide (Binding.scopes x = Binding.scopes y)) = true → ObsEq [] [] ∧ AV.sv (lb false) = AV.sv (lb (decide (x = y)))) ∧
 ((!decide (Binding.scopes x = Binding.scopes y)) = false → (decide (Binding.kind x ≠ Binding.kind y) = true → ObsEq [] [] ∧ AV.sv (lb false) = AV.sv (lb (decide (x = y)))) ∧
 (decide (Binding.kind x ≠ Binding.kind y) = false → (decide (Binding.number x ≠ Binding.number y) = true → ObsEq [] [] ∧ AV.sv (lb false) = AV.sv (lb (decide (x = y)))) ∧ (decide
 (Binding.number x ≠ Binding.number y) = false → ObsEq [] [] ∧ AV.sv (lb true) = AV.sv (lb (decide (x = y)))))))) := by kernel_rfl
theorem c_eqBinding (x y : Binding)  : P_c_eqBinding x y := by
  refine CallOK.ofRun wide (run_c_eqBinding x y) Tryz.call102 Tryz.func102 rfl rfl rfl ?_
  simp only [bindingExt]
  with_reducible repeat' (first | apply And.intro | exact flatI | exact flatS | exact rowLens | (intro; skip) | apply obsN | apply obsC | apply obA | apply obM | apply obB | apply svA | apply tupA | apply lcA | apply lcS | apply svC | apply liC | apply lbC | apply lsC | apply vIc | apply vBc | apply vSc | apply vLc | apply mapC | apply c_eqIntS)
  all_goals (try simp only [std] at *)
  all_goals (try (first | with_reducible apply c_eqIntS | (simp only [← List.map_append]; first | with_reducible apply c_eqIntS)))
  all_goals (try (first | with_reducible rfl | omega | assumption | (refine (decide_eq_true ?_).symm; assumption) | (refine (decide_eq_false ?_).symm; assumption) | (refine rowGet ?_; (first | omega | (simp only [std]; omega) | grind)) | (refine getC ?_ rfl; (first | omega | (simp only [std]; omega) | grind)) | (refine fill_step ?_ ?_; (first | omega | (simp only [std]; omega) | grind); (first | rfl | exact (Row.eq _).trans rfl)) | (refine fill_init ?_; (first | rfl | exact (Row.eq _).trans rfl)) | (show (_ : St) = _; rfl) | grind [bytes_ext, snocI, snocS, rowSnoc]))
abbrev P_c_eqBindingS (A : List Binding) (B : List Binding) : Prop := CallOK Tryz.prog 34 [] [ll (A.map bindingC), ll (B.map bindingC)] [] (.sv (lb (decide (A = B))))
def Tc_eqBindingSLa (A : List Binding) (B : List Binding) (x0 : SV) : St := St.mk (regsOf 27 [(0, AV.sv (ll (List.map bindingC A))), (1, AV.sv (ll (List.map bindingC B))), (5,
 AV.sv x0)]) [] 0 
def Lc_eqBindingSLa (A : List Binding) (B : List Binding) (k : Nat) : St := Tc_eqBindingSLa A B (li (↑k : Int)) 
def Ic_eqBindingSLa (A : List Binding) (B : List Binding) : Nat → St → Prop := Head (Lc_eqBindingSLa A B) (fun k => k ≤ List.length A ∧ List.length A ≤ 9223372036854775807 ∧
 List.length A = List.length B ∧ List.take k A = List.take k B) fun k => List.length A - k 
def W0c_eqBindingSLa (A : List Binding) (B : List Binding) : St := St.mk (regsOf 27 []) [] 0 
def W1c_eqBindingSLa (A : List Binding) (B : List Binding) (x0 : SV) : St := St.mk (regsOf 27 [(4, AV.sv x0)]) [] 0 
def Yc_eqBindingSLa (A : List Binding) (B : List Binding) : List (Prop × AEx × St) := [(A = B, AEx.exit 0, W0c_eqBindingSLa A B), (A ≠ B, AEx.ret, W1c_eqBindingSLa A B (lb false))]
theorem Hc_eqBindingSLa {A : List Binding} {B : List Binding} {k : Nat} {m : Nat} (h : (fun k => k ≤ List.length A ∧ List.length A ≤ 9223372036854775807 ∧ List.length A =
 List.length B ∧ List.take k A = List.take k B) k) (hm : (fun k => List.length A - k) k = m) : Ic_eqBindingSLa A B m (Lc_eqBindingSLa A B k) := hm ▸ Head.mk h
theorem Ec_eqBindingSLa {A : List Binding} {B : List Binding} {k : Nat} {x0 : SV} (h0 : x0 = (li (↑k : Int))) : Tc_eqBindingSLa A B x0 = Lc_eqBindingSLa A B k := by
  rw [h0]
  rfl
theorem EW1c_eqBindingSLa {A : List Binding} {B : List Binding} {x0 y0 : SV} (h0 : x0 = y0) : W1c_eqBindingSLa A B x0 = W1c_eqBindingSLa A B y0 := by rw [h0]
theorem run_c_eqBindingSLa (A : List Binding) (B : List Binding) (k : Nat) : aexec Tryz.prog (loopAt Tryz.f34 0) (Lc_eqBindingSLa A B k) [Orc.br [Orc.draw [], Orc.cells (bindingF
 (List.getD A k default)), Orc.cells (bindingF (List.getD B k default)), Orc.call [Mode.rd, Mode.rd] [] (AV.sv (lb (decide (List.getD A k default = List.getD B k default)))),
 Orc.br [Orc.ghost (Ghost.sel [] [4]), Orc.out 1] [Orc.ghost (Ghost.sel [] [0, 1, 5]), Orc.goto (List.length A - (k + 1)) (Lc_eqBindingSLa A B (k + 1))]] [Orc.ghost (Ghost.sel []
 []), Orc.out 0]] (loopK (Ic_eqBindingSLa A B) (Yc_eqBindingSLa A B) (List.length A - k)) = (List.length (List.map bindingC A) ≤ 9223372036854775807 → (decide ((↑k : Int) <
 (↑(List.length (List.map bindingC A)) : Int)) = true → (0 ≤ (↑k : Int) ∧ (List.map bindingC A)[Int.toNat (↑k : Int)]? = some (bindingF (List.getD A k default))) ∧ (0 ≤ (↑k : Int)
 ∧ (List.map bindingC B)[Int.toNat (↑k : Int)]? = some (bindingF (List.getD B k default))) ∧ P_c_eqBinding (List.getD A k default) (List.getD B k default) ∧ ((!decide (List.getD A
 k default = List.getD B k default)) = true → A ≠ B ∧ W1c_eqBindingSLa A B (lb false) = W1c_eqBindingSLa A B (lb false)) ∧ ((!decide (List.getD A k default = List.getD B k
 default)) = false → rng IntKind.i64 ((↑k : Int) + 1) ∧ List.length A - (k + 1) < List.length A - k ∧ Tc_eqBindingSLa A B (li ((↑k : Int) + 1)) = Lc_eqBindingSLa A B (k + 1) ∧
 Ic_eqBindingSLa A B (List.length A - (k + 1)) (Lc_eqBindingSLa A B (k + 1)))) ∧ (decide ((↑k : Int) < (↑(List.length (List.map bindingC A)) : Int)) = false → A = B ∧
 W0c_eqBindingSLa A B = W0c_eqBindingSLa A B)) := by kernel_rfl
theorem Sc_eqBindingSLa (A : List Binding) (B : List Binding)  : LoopSem Tryz.prog (loopAt Tryz.f34 0) (Ic_eqBindingSLa A B) (Yc_eqBindingSLa A B) := by
  refine LoopSem.ofHead wide fun k h => ⟨_, _, run_c_eqBindingSLa A B k, ?_⟩
  with_reducible repeat' (first | apply And.intro | exact flatI | exact flatS | exact rowLens | (intro; skip) | apply obsN | apply obsC | apply obA | apply obM | apply obB | apply svA | apply tupA | apply lcA | apply lcS | apply svC | apply liC | apply lbC | apply lsC | apply vIc | apply vBc | apply vSc | apply vLc | apply mapC | apply Hc_eqBindingSLa | apply Ec_eqBindingSLa | apply EW1c_eqBindingSLa | apply c_eqBinding)
  all_goals (try simp only [std] at *)
  all_goals (try (first | with_reducible apply c_eqBinding | (simp only [← List.map_append]; first | with_reducible apply c_eqBinding)))
  all_goals (try (first | with_reducible rfl | omega | assumption | (refine (decide_eq_true ?_).symm; assumption) | (refine (decide_eq_false ?_).symm; assumption) | (refine rowGet ?_; (first | omega | (simp only [std]; omega) | grind)) | (refine getC ?_ rfl; (first | omega | (simp only [std]; omega) | grind)) | (refine fill_step ?_ ?_; (first | omega | (simp only [std]; omega) | grind); (first | rfl | exact (Row.eq _).trans rfl)) | (refine fill_init ?_; (first | rfl | exact (Row.eq _).trans rfl)) | (show (_ : St) = _; rfl) | grind [take_eq, getD_mem', snocI, snocS, rowSnoc]))
theorem run_c_eqBindingS (A : List Binding) (B : List Binding) : aexec Tryz.prog (Option.getD (Func.body Tryz.f34) Code.skip) (entry [] [ll (List.map bindingC A), ll (List.map
 bindingC B)] 27) [Orc.br [Orc.fin []] [Orc.ghost (Ghost.sel [] [0, 1, 5]), Orc.loop (List.length A - 0) (Lc_eqBindingSLa A B 0) (Ic_eqBindingSLa A B) [(A = B, AEx.exit 0,
 W0c_eqBindingSLa A B, [Orc.fin []]), (A ≠ B, AEx.ret, W1c_eqBindingSLa A B (lb false), [Orc.fin []])]]] (finK Tryz.prog [ResultVar.tmp 4] [] (AV.sv (lb (decide (A = B))))) =
 (List.length (List.map bindingC A) ≤ 9223372036854775807 → List.length (List.map bindingC B) ≤ 9223372036854775807 → (decide ((↑(List.length (List.map bindingC A)) : Int) ≠
 (↑(List.length (List.map bindingC B)) : Int)) = true → ObsEq [] [] ∧ AV.sv (lb false) = AV.sv (lb (decide (A = B)))) ∧ (decide ((↑(List.length (List.map bindingC A)) : Int) ≠
 (↑(List.length (List.map bindingC B)) : Int)) = false → Tc_eqBindingSLa A B (li 0) = Lc_eqBindingSLa A B 0 ∧ Ic_eqBindingSLa A B (List.length A - 0) (Lc_eqBindingSLa A B 0) ∧
 LoopSem Tryz.prog (loopAt Tryz.f34 0) (Ic_eqBindingSLa A B) (Yc_eqBindingSLa A B) ∧ (A = B → ObsEq [] [] ∧ AV.sv (lb true) = AV.sv (lb (decide (A = B)))) ∧ ((A = B → False) →
 ObsEq [] [] ∧ AV.sv (lb false) = AV.sv (lb (decide (A = B)))) ∧ True)) := by kernel_rfl
theorem c_eqBindingS (A B : List Binding)  : P_c_eqBindingS A B := by
  refine CallOK.ofRun wide (run_c_eqBindingS A B) Tryz.call34 Tryz.func34 rfl rfl rfl ?_
  with_reducible repeat' (first | apply And.intro | exact flatI | exact flatS | exact rowLens | (intro; skip) | apply obsN | apply obsC | apply obA | apply obM | apply obB | apply svA | apply tupA | apply lcA | apply lcS | apply svC | apply liC | apply lbC | apply lsC | apply vIc | apply vBc | apply vSc | apply vLc | apply mapC | apply Hc_eqBindingSLa | apply Ec_eqBindingSLa | apply Sc_eqBindingSLa | apply EW1c_eqBindingSLa | apply c_eqBinding)
  all_goals (try simp only [std] at *)
  all_goals (try (first | with_reducible apply c_eqBinding | (simp only [← List.map_append]; first | with_reducible apply c_eqBinding)))
  all_goals (try (first | with_reducible rfl | omega | assumption | (refine (decide_eq_true ?_).symm; assumption) | (refine (decide_eq_false ?_).symm; assumption) | (refine rowGet ?_; (first | omega | (simp only [std]; omega) | grind)) | (refine getC ?_ rfl; (first | omega | (simp only [std]; omega) | grind)) | (refine fill_step ?_ ?_; (first | omega | (simp only [std]; omega) | grind); (first | rfl | exact (Row.eq _).trans rfl)) | (refine fill_init ?_; (first | rfl | exact (Row.eq _).trans rfl)) | (show (_ : St) = _; rfl) | grind [snocI, snocS, rowSnoc]))
abbrev P_c_eqRules (x : Rules) (y : Rules) : Prop := CallOK Tryz.prog 44 [] [rulesA x, rulesA y] [] (.sv (lb (decide (x = y))))
theorem run_c_eqRules (x : Rules) (y : Rules) : aexec Tryz.prog (Option.getD (Func.body Tryz.f44) Code.skip) (entry [] [rulesA x, rulesA y] 23) [Orc.call [Mode.rd, Mode.rd] []
 (AV.sv (lb (decide (Rules.literals x = Rules.literals y)))), Orc.br [Orc.fin []] [Orc.call [Mode.rd, Mode.rd] [] (AV.sv (lb (decide (Rules.patterns x = Rules.patterns y)))),
 Orc.br [Orc.fin []] [Orc.call [Mode.rd, Mode.rd] [] (AV.sv (lb (decide (Rules.templates x = Rules.templates y)))), Orc.br [Orc.fin []] [Orc.fin []]]]] (finK Tryz.prog
 [ResultVar.tmp 4] [] (AV.sv (lb (decide (x = y))))) = (P_c_eqSyntaxS (Rules.literals x) (Rules.literals y) ∧ ((!decide (Rules.literals x = Rules.literals y)) = true → ObsEq [] []
 ∧ AV.sv (lb false) = AV.sv (lb (decide (x = y)))) ∧ ((!decide (Rules.literals x = Rules.literals y)) = false → P_c_eqSyntaxS (Rules.patterns x) (Rules.patterns y) ∧ ((!decide
 (Rules.patterns x = Rules.patterns y)) = true → ObsEq [] [] ∧ AV.sv (lb false) = AV.sv (lb (decide (x = y)))) ∧ ((!decide (Rules.patterns x = Rules.patterns y)) = false →
 P_c_eqSyntaxS (Rules.templates x) (Rules.templates y) ∧ ((!decide (Rules.templates x = Rules.templates y)) = true → ObsEq [] [] ∧ AV.sv (lb false) = AV.sv (lb (decide (x = y)))) ∧
 ((!decide (Rules.templates x = Rules.templates y)) = false → ObsEq [] [] ∧ AV.sv (lb true) = AV.sv (lb (decide (x = y))))))) := by kernel_rfl
theorem c_eqRules (x y : Rules)  : P_c_eqRules x y := by
  refine CallOK.ofRun wide (run_c_eqRules x y) Tryz.call44 Tryz.func44 rfl rfl rfl ?_
  simp only [rulesExt]
  with_reducible repeat' (first | apply And.intro | exact flatI | exact flatS | exact rowLens | (intro; skip) | apply obsN | apply obsC | apply obA | apply obM | apply obB | apply svA | apply tupA | apply lcA | apply lcS | apply svC | apply liC | apply lbC | apply lsC | apply vIc | apply vBc | apply vSc | apply vLc | apply mapC | apply c_eqSyntaxS | apply c_eqSyntax)
  all_goals (try simp only [std] at *)
  all_goals (try (first | with_reducible apply c_eqSyntaxS | with_reducible apply c_eqSyntax | (simp only [← List.map_append]; first | with_reducible apply c_eqSyntaxS | with_reducible apply c_eqSyntax)))
  all_goals (try (first | with_reducible rfl | omega | assumption | (refine (decide_eq_true ?_).symm; assumption) | (refine (decide_eq_false ?_).symm; assumption) | (refine rowGet ?_; (first | omega | (simp only [std]; omega) | grind)) | (refine getC ?_ rfl; (first | omega | (simp only [std]; omega) | grind)) | (refine fill_step ?_ ?_; (first | omega | (simp only [std]; omega) | grind); (first | rfl | exact (Row.eq _).trans rfl)) | (refine fill_init ?_; (first | rfl | exact (Row.eq _).trans rfl)) | (show (_ : St) = _; rfl) | grind [bytes_ext, snocI, snocS, rowSnoc]))
abbrev P_c_eqRulesS (A : List Rules) (B : List Rules) : Prop := CallOK Tryz.prog 90 [] [ll (A.map rulesC), ll (B.map rulesC)] [] (.sv (lb (decide (A = B))))
def Tc_eqRulesSLa (A : List Rules) (B : List Rules) (x0 : SV) : St := St.mk (regsOf 27 [(0, AV.sv (ll (List.map rulesC A))), (1, AV.sv (ll (List.map rulesC B))), (5, AV.sv x0)]) []
 0 
def Lc_eqRulesSLa (A : List Rules) (B : List Rules) (k : Nat) : St := Tc_eqRulesSLa A B (li (↑k : Int)) 
def Ic_eqRulesSLa (A : List Rules) (B : List Rules) : Nat → St → Prop := Head (Lc_eqRulesSLa A B) (fun k => k ≤ List.length A ∧ List.length A ≤ 9223372036854775807 ∧ List.length A
 = List.length B ∧ List.take k A = List.take k B) fun k => List.length A - k 
def W0c_eqRulesSLa (A : List Rules) (B : List Rules) : St := St.mk (regsOf 27 []) [] 0 
def W1c_eqRulesSLa (A : List Rules) (B : List Rules) (x0 : SV) : St := St.mk (regsOf 27 [(4, AV.sv x0)]) [] 0 
def Yc_eqRulesSLa (A : List Rules) (B : List Rules) : List (Prop × AEx × St) := [(A = B, AEx.exit 0, W0c_eqRulesSLa A B), (A ≠ B, AEx.ret, W1c_eqRulesSLa A B (lb false))]
theorem Hc_eqRulesSLa {A : List Rules} {B : List Rules} {k : Nat} {m : Nat} (h : (fun k => k ≤ List.length A ∧ List.length A ≤ 9223372036854775807 ∧ List.length A = List.length B ∧
 List.take k A = List.take k B) k) (hm : (fun k => List.length A - k) k = m) : Ic_eqRulesSLa A B m (Lc_eqRulesSLa A B k) := hm ▸ Head.mk h
theorem Ec_eqRulesSLa {A : List Rules} {B : List Rules} {k : Nat} {x0 : SV} (h0 : x0 = (li (↑k : Int))) : Tc_eqRulesSLa A B x0 = Lc_eqRulesSLa A B k := by
  rw [h0]
  rfl
theorem EW1c_eqRulesSLa {A : List Rules} {B : List Rules} {x0 y0 : SV} (h0 : x0 = y0) : W1c_eqRulesSLa A B x0 = W1c_eqRulesSLa A B y0 := by rw [h0]
theorem run_c_eqRulesSLa (A : List Rules) (B : List Rules) (k : Nat) : aexec Tryz.prog (loopAt Tryz.f90 0) (Lc_eqRulesSLa A B k) [Orc.br [Orc.draw [], Orc.cells (rulesF (List.getD
 A k default)), Orc.cells (rulesF (List.getD B k default)), Orc.call [Mode.rd, Mode.rd] [] (AV.sv (lb (decide (List.getD A k default = List.getD B k default)))), Orc.br [Orc.ghost
 (Ghost.sel [] [4]), Orc.out 1] [Orc.ghost (Ghost.sel [] [0, 1, 5]), Orc.goto (List.length A - (k + 1)) (Lc_eqRulesSLa A B (k + 1))]] [Orc.ghost (Ghost.sel [] []), Orc.out 0]]
 (loopK (Ic_eqRulesSLa A B) (Yc_eqRulesSLa A B) (List.length A - k)) = (List.length (List.map rulesC A) ≤ 9223372036854775807 → (decide ((↑k : Int) < (↑(List.length (List.map
 rulesC A)) : Int)) = true → (0 ≤ (↑k : Int) ∧ (List.map rulesC A)[Int.toNat (↑k : Int)]? = some (rulesF (List.getD A k default))) ∧ (0 ≤ (↑k : Int) ∧ (List.map rulesC B)[Int.toNat
 (↑k : Int)]? = some (rulesF (List.getD B k default))) ∧ P_c_eqRules (List.getD A k default) (List.getD B k default) ∧ ((!decide (List.getD A k default = List.getD B k default)) =
 true → A ≠ B ∧ W1c_eqRulesSLa A B (lb false) = W1c_eqRulesSLa A B (lb false)) ∧ ((!decide (List.getD A k default = List.getD B k default)) = false → rng IntKind.i64 ((↑k : Int) +
 1) ∧ List.length A - (k + 1) < List.length A - k ∧ Tc_eqRulesSLa A B (li ((↑k : Int) + 1)) = Lc_eqRulesSLa A B (k + 1) ∧ Ic_eqRulesSLa A B (List.length A - (k + 1)) (Lc_eqRulesSLa
 A B (k + 1)))) ∧ (decide ((↑k : Int) < (↑(List.length (List.map rulesC A)) : Int)) = false → A = B ∧ W0c_eqRulesSLa A B = W0c_eqRulesSLa A B)) := by kernel_rfl
theorem Sc_eqRulesSLa (A : List Rules) (B : List Rules)  : LoopSem Tryz.prog (loopAt Tryz.f90 0) (Ic_eqRulesSLa A B) (Yc_eqRulesSLa A B) := by
  refine LoopSem.ofHead wide fun k h => ⟨_, _, run_c_eqRulesSLa A B k, ?_⟩
  with_reducible repeat' (first | apply And.intro | exact flatI | exact flatS | exact rowLens | (intro; skip) | apply obsN | apply obsC | apply obA | apply obM | apply obB | apply svA | apply tupA | apply lcA | apply lcS | apply svC | apply liC | apply lbC | apply lsC | apply vIc | apply vBc | apply vSc | apply vLc | apply mapC | apply Hc_eqRulesSLa | apply Ec_eqRulesSLa | apply EW1c_eqRulesSLa | apply c_eqRules)
  all_goals (try simp only [std] at *)
  all_goals (try (first | with_reducible apply c_eqRules | (simp only [← List.map_append]; first | with_reducible apply c_eqRules)))
  all_goals (try (first | with_reducible rfl | omega | assumption | (refine (decide_eq_true ?_).symm; assumption) | (refine (decide_eq_false ?_).symm; assumption) | (refine rowGet ?_; (first | omega | (simp only [std]; omega) | grind)) | (refine getC ?_ rfl; (first | omega | (simp only [std]; omega) | grind)) | (refine fill_step ?_ ?_; (first | omega | (simp only [std]; omega) | grind); (first | rfl | exact (Row.eq _).trans rfl)) | (refine fill_init ?_; (first | rfl | exact (Row.eq _).trans rfl)) | (show (_ : St) = _; rfl) | grind [take_eq, getD_mem', snocI, snocS, rowSnoc]))
theorem run_c_eqRulesS (A : List Rules) (B : List Rules) : aexec Tryz.prog (Option.getD (Func.body Tryz.f90) Code.skip) (entry [] [ll (List.map rulesC A), ll (List.map rulesC B)]
 27) [Orc.br [Orc.fin []] [Orc.ghost (Ghost.sel [] [0, 1, 5]), Orc.loop (List.length A - 0) (Lc_eqRulesSLa A B 0) (Ic_eqRulesSLa A B) [(A = B, AEx.exit 0, W0c_eqRulesSLa A B,
 [Orc.fin []]), (A ≠ B, AEx.ret, W1c_eqRulesSLa A B (lb false), [Orc.fin []])]]] (finK Tryz.prog [ResultVar.tmp 4] [] (AV.sv (lb (decide (A = B))))) = (List.length (List.map rulesC
 A) ≤ 9223372036854775807 → List.length (List.map rulesC B) ≤ 9223372036854775807 → (decide ((↑(List.length (List.map rulesC A)) : Int) ≠ (↑(List.length (List.map rulesC B)) :
 Int)) = true → ObsEq [] [] ∧ AV.sv (lb false) = AV.sv (lb (decide (A = B)))) ∧ (decide ((↑(List.length (List.map rulesC A)) : Int) ≠ (↑(List.length (List.map rulesC B)) : Int)) =
 false → Tc_eqRulesSLa A B (li 0) = Lc_eqRulesSLa A B 0 ∧ Ic_eqRulesSLa A B (List.length A - 0) (Lc_eqRulesSLa A B 0) ∧ LoopSem Tryz.prog (loopAt Tryz.f90 0) (Ic_eqRulesSLa A B)
 (Yc_eqRulesSLa A B) ∧ (A = B → ObsEq [] [] ∧ AV.sv (lb true) = AV.sv (lb (decide (A = B)))) ∧ ((A = B → False) → ObsEq [] [] ∧ AV.sv (lb false) = AV.sv (lb (decide (A = B)))) ∧
 True)) := by kernel_rfl
theorem c_eqRulesS (A B : List Rules)  : P_c_eqRulesS A B := by
  refine CallOK.ofRun wide (run_c_eqRulesS A B) Tryz.call90 Tryz.func90 rfl rfl rfl ?_
  with_reducible repeat' (first | apply And.intro | exact flatI | exact flatS | exact rowLens | (intro; skip) | apply obsN | apply obsC | apply obA | apply obM | apply obB | apply svA | apply tupA | apply lcA | apply lcS | apply svC | apply liC | apply lbC | apply lsC | apply vIc | apply vBc | apply vSc | apply vLc | apply mapC | apply Hc_eqRulesSLa | apply Ec_eqRulesSLa | apply Sc_eqRulesSLa | apply EW1c_eqRulesSLa | apply c_eqRules)
  all_goals (try simp only [std] at *)
  all_goals (try (first | with_reducible apply c_eqRules | (simp only [← List.map_append]; first | with_reducible apply c_eqRules)))
  all_goals (try (first | with_reducible rfl | omega | assumption | (refine (decide_eq_true ?_).symm; assumption) | (refine (decide_eq_false ?_).symm; assumption) | (refine rowGet ?_; (first | omega | (simp only [std]; omega) | grind)) | (refine getC ?_ rfl; (first | omega | (simp only [std]; omega) | grind)) | (refine fill_step ?_ ?_; (first | omega | (simp only [std]; omega) | grind); (first | rfl | exact (Row.eq _).trans rfl)) | (refine fill_init ?_; (first | rfl | exact (Row.eq _).trans rfl)) | (show (_ : St) = _; rfl) | grind [snocI, snocS, rowSnoc]))
abbrev P_c_eqExpander (x : Expander) (y : Expander) : Prop := CallOK Tryz.prog 24 [] [expanderA x, expanderA y] [] (.sv (lb (decide (x = y))))
theorem run_c_eqExpander (x : Expander) (y : Expander) : aexec Tryz.prog (Option.getD (Func.body Tryz.f24) Code.skip) (entry [] [expanderA x, expanderA y] 32) [Orc.call [Mode.rd,
 Mode.rd] [] (AV.sv (lb (decide (Expander.bindings x = Expander.bindings y)))), Orc.br [Orc.fin []] [Orc.call [Mode.rd, Mode.rd] [] (AV.sv (lb (decide (Expander.macros x =
 Expander.macros y)))), Orc.br [Orc.fin []] [Orc.br [Orc.fin []] [Orc.br [Orc.fin []] [Orc.br [Orc.fin []] [Orc.fin []]]]]]] (finK Tryz.prog [ResultVar.tmp 4] [] (AV.sv (lb (decide
 (x = y))))) = (P_c_eqBindingS (Expander.bindings x) (Expander.bindings y) ∧ ((!decide (Expander.bindings x = Expander.bindings y)) = true → ObsEq [] [] ∧ AV.sv (lb false) = AV.sv
 (lb (decide (x = y)))) ∧ ((!decide (Expander.bindings x = Expander.bindings y)) = false → P_c_eqRulesS (Expander.macros x) (Expander.macros y) ∧ ((!decide (Expander.macros x =
 Expander.macros y)) = true → ObsEq [] [] ∧ AV.sv (lb false) = AV.sv (lb (decide (x = y)))) ∧ ((!decide (Expander.macros x = Expander.macros y)) = false → (decide (Expander.scope x
 ≠ Expander.scope y) = true → ObsEq [] [] ∧ AV.sv (lb false) = AV.sv (lb (decide (x = y)))) ∧ (decide (Expander.scope x ≠ Expander.scope y) = false → (decide (Expander.vari x ≠
 Expander.vari y) = true → ObsEq [] [] ∧ AV.sv (lb false) = AV.sv (lb (decide (x = y)))) ∧ (decide (Expander.vari x ≠ Expander.vari y) = false → (decide (Expander.steps x ≠
 Expander.steps y) = true → ObsEq [] [] ∧ AV.sv (lb false) = AV.sv (lb (decide (x = y)))) ∧ (decide (Expander.steps x ≠ Expander.steps y) = false → ObsEq [] [] ∧ AV.sv (lb true) =
 AV.sv (lb (decide (x = y))))))))) := by kernel_rfl
theorem c_eqExpander (x y : Expander)  : P_c_eqExpander x y := by
  refine CallOK.ofRun wide (run_c_eqExpander x y) Tryz.call24 Tryz.func24 rfl rfl rfl ?_
  simp only [expanderExt]
  with_reducible repeat' (first | apply And.intro | exact flatI | exact flatS | exact rowLens | (intro; skip) | apply obsN | apply obsC | apply obA | apply obM | apply obB | apply svA | apply tupA | apply lcA | apply lcS | apply svC | apply liC | apply lbC | apply lsC | apply vIc | apply vBc | apply vSc | apply vLc | apply mapC | apply c_eqBindingS | apply c_eqRulesS)
  all_goals (try simp only [std] at *)
  all_goals (try (first | with_reducible apply c_eqBindingS | with_reducible apply c_eqRulesS | (simp only [← List.map_append]; first | with_reducible apply c_eqBindingS | with_reducible apply c_eqRulesS)))
  all_goals (try (first | with_reducible rfl | omega | assumption | (refine (decide_eq_true ?_).symm; assumption) | (refine (decide_eq_false ?_).symm; assumption) | (refine rowGet ?_; (first | omega | (simp only [std]; omega) | grind)) | (refine getC ?_ rfl; (first | omega | (simp only [std]; omega) | grind)) | (refine fill_step ?_ ?_; (first | omega | (simp only [std]; omega) | grind); (first | rfl | exact (Row.eq _).trans rfl)) | (refine fill_init ?_; (first | rfl | exact (Row.eq _).trans rfl)) | (show (_ : St) = _; rfl) | grind [bytes_ext, snocI, snocS, rowSnoc]))
end Go.Proofs.YtegbadciefljcaaGreat
end
section
namespace Go.Proofs.YtegbadciefljcaaGreat
open Go Go.Proofs.YtegbadciefljcaaGreat.Ab
set_option linter.unusedVariables false
set_option linter.unusedSimpArgs false
set_option maxHeartbeats 4000000
abbrev P_c_LExp (x : Expander) : Prop := CallOK Tryz.prog 4 [] [expanderA x] [] (.sv (lb true))
theorem run_c_LExp (x : Expander) : aexec Tryz.prog (Option.getD (Func.body Tryz.f4) Code.skip) (entry [] [expanderA x] 27) [Orc.call [Mode.rd, Mode.rd] [] (AV.sv (li (sz (wX x)
 1048576))), Orc.br [Orc.fin []] [Orc.call [Mode.rd] (expanderO x) (AV.sv (expanderR x 0)), Orc.call [Mode.rd] [] (AV.sv (lb (isExp x))), Orc.call [Mode.rd] (expanderO x) (AV.sv
 (expanderR x 0)), Orc.call [Mode.rd] [] (AV.sv (lb (isExp x))), Orc.br [Orc.fin []] [Orc.draw [], Orc.call [Mode.rd] (expanderO x) (AV.sv (expanderR x 0)), Orc.call [Mode.rd,
 Mode.rd] [] (AV.sv (lb (decide (x = x)))), Orc.br [Orc.fin []] [Orc.fin []]]]] (finK Tryz.prog [ResultVar.tmp 2] [] (AV.sv (lb true))) = (P_c_szExpander x 1048576 ∧ (decide (sz
 (wX x) (1048576 : Int) < 0) = true → ObsEq [] [] ∧ AV.sv (lb true) = AV.sv (lb true)) ∧ (decide (sz (wX x) (1048576 : Int) < 0) = false → P_c_toExpander x ∧ P_c_sIsExp x ∧
 P_c_toExpander x ∧ P_c_iIsExp x ∧ (decide (isExp x ≠ isExp x) = true → ObsEq [] [] ∧ AV.sv (lb false) = AV.sv (lb true)) ∧ (decide (isExp x ≠ isExp x) = false → P_c_toExpander x ∧
 P_c_eqExpander x x ∧ ((!decide (x = x)) = true → ObsEq [] [] ∧ AV.sv (lb false) = AV.sv (lb true)) ∧ ((!decide (x = x)) = false → ObsEq [] [] ∧ AV.sv (lb true) = AV.sv (lb
 true))))) := by kernel_rfl
theorem c_LExp (x : Expander)  : P_c_LExp x := by
  refine CallOK.ofRun wide (run_c_LExp x) Tryz.call4 Tryz.func4 rfl rfl rfl ?_
  with_reducible repeat' (first | apply And.intro | exact flatI | exact flatS | exact rowLens | (intro; skip) | apply obsN | apply obsC | apply obA | apply obM | apply obB | apply svA | apply tupA | apply lcA | apply lcS | apply svC | apply liC | apply lbC | apply lsC | apply vIc | apply vBc | apply vSc | apply vLc | apply mapC | apply c_szExpander | apply c_toExpander | apply c_eqExpander | apply c_sIsExp | apply c_iIsExp)
  all_goals (try simp only [std] at *)
  all_goals (try (first | with_reducible apply c_szExpander | with_reducible apply c_toExpander | with_reducible apply c_eqExpander | with_reducible apply c_sIsExp | with_reducible apply c_iIsExp | (simp only [← List.map_append]; first | with_reducible apply c_szExpander | with_reducible apply c_toExpander | with_reducible apply c_eqExpander | with_reducible apply c_sIsExp | with_reducible apply c_iIsExp)))
  all_goals (try (first | with_reducible rfl | omega | assumption | (refine (decide_eq_true ?_).symm; assumption) | (refine (decide_eq_false ?_).symm; assumption) | (refine rowGet ?_; (first | omega | (simp only [std]; omega) | grind)) | (refine getC ?_ rfl; (first | omega | (simp only [std]; omega) | grind)) | (refine fill_step ?_ ?_; (first | omega | (simp only [std]; omega) | grind); (first | rfl | exact (Row.eq _).trans rfl)) | (refine fill_init ?_; (first | rfl | exact (Row.eq _).trans rfl)) | (show (_ : St) = _; rfl) | grind [sz, snocI, snocS, rowSnoc]))
end Go.Proofs.YtegbadciefljcaaGreat
end
section
namespace Go.Proofs.YtegbadciefljcaaGreat.fnExactIsExpander
open Go Go.ChangeShapes Go.WideShapes Go.ChangeAt Go.RowKit Go.Proofs.YtegbadciefljcaaGreat.Ab
set_option linter.unusedVariables false
theorem own : ownKnob Tryz.prog.godebug = none := by kernel_rfl
theorem laid : laidOutB Tryz.prog = true := by kernel_rfl
theorem rowed : mapsRowed Tryz.prog = true := by kernel_rfl
theorem sized : ((List.range Tryz.prog.types.size).all fun t => match Tryz.prog.underlying t with | some (.slice e) => decide (0 < Tryz.prog.cellsOf e) | _ => true) = true := by kernel_rfl
set_option maxRecDepth 100000 in
theorem lifted (os : Os) (started : os.Started) (H : Type) (enc : TypeId × Value → H) :
    ReturnsInHanded {} Tryz.checked os 4 .any (Rows.fnExactIsExpanderSpec.pre6 enc Tryz.prog Tryz.f4 Rows.fnExactIsExpanderRow.domain false) (Rows.fnExactIsExpanderSpec.post enc Tryz.prog Tryz.f4 false true false false) := by
  refine returnsInHanded_of_change (C := Tryz.checked) own started (by kernel_rfl) Tryz.func4
    (ChangeSpec.witness6 (enc := enc) (C := Tryz.checked) false ⟨#[], #[.agg #[.slice none 0 0, .slice none 0 0, .int .i64 0, .int .i64 0, .int .i64 0]], []⟩ 12 (by kernel_rfl) (by kernel_rfl) (by kernel_rfl) (by kernel_rfl)) ?_
  intro W base args ds gs before hval0 hW hcnd _
  have hval : ∀ (j : Nat) t v, Tryz.f4.params[j]? = some t → args[j]? = some v → Value.okWide Tryz.prog W .any base t v := hval0
  have hW' := hW
  obtain ⟨p, q, hA0, hV, rfl, hfz, hnd⟩ := hW
  obtain ⟨rfl, rfl⟩ := trodVars_none hV
  have hA : DataW.TrodAll enc Tryz.prog W 0 (fun _ => true) true Tryz.f4.params.toList args.toList ds p := hA0
  rw [Tryz.params4] at hA hval
  have hA2 := hA
  clear hA0 hval0
  obtain ⟨v0, vs0, d0, ds0, p0, q0, hargs0, rfl, rfl, h0, r0⟩ := trodAll_cons hA
  obtain ⟨rfl, rfl, rfl⟩ := trodAll_nil r0
  obtain rfl : args = #[v0] := by cases args; simp_all
  obtain ⟨a0, c0⟩ := (let ⟨fuel, hf⟩ := h0; rd_expander fuel _ _ hf)
  have s0 : SVRel W (allI W) (obOf []) (expanderA a0) v0 := agg_rel (let ⟨cs, h, _⟩ := okWide_struct Tryz.underlying43 (hval 0 43 v0 rfl rfl); ⟨cs, h⟩) c0
  refine (CallOK.kept (w := W) (vals := #[v0]) (c_LExp a0) ⟨s0, trivial⟩).mono fun e W' ⟨he, hg, _⟩ => ?_
  subst he
  exact ⟨_, rfl, post_of_kept (pv := []) hW' (fun _ _ _ => (trodAll_cons_mk (shut_bool Tryz.underlying4 _) trodAll_mk0))
    (fun sp hsp => trodAll_kept laid rowed sized hg (by decide +kernel) hA2 fun y hy => hsp y (by simpa using hy)) (fun _ _ => rfl) rfl
    hg (ok_one (by kernel_rfl) rfl (okWide_bool_mk Tryz.underlying4 _))⟩
set_option maxRecDepth 100000 in
set_option maxHeartbeats 0 in
theorem facts : joinedFacts Tryz.pinned.checked.prog 4 Tryz.f4 Rows.fnExactIsExpanderSpec Rows.fnExactIsExpanderRow = true := by
  delta joinedFacts
  with_reducible repeat' apply and_i
  all_goals (first | with_reducible exact enters | (rw [makes]; kernel_rfl) | (rw [lifts]; kernel_rfl) | decide +kernel)
theorem over : Rows.fnExactIsExpanderRow.holds Tryz.pinned (OpenSpec.ofChange Rows.fnExactIsExpanderSpec) :=
  OpenClaim.holds_of_wide 4 Tryz.f4 rfl rfl rfl rfl rfl rfl rfl ⟨rfl, rfl, rfl, rfl, rfl⟩ rfl rfl rfl rfl rfl (by kernel_rfl) Tryz.func4 facts
    (of_decide_eq_true (by kernel_rfl)) (by unfold Func.isWrapper; first | (rw [if_pos (by decide +kernel)]; kernel_rfl) | (rw [if_neg (by decide +kernel)]; exact ⟨rfl, rfl⟩))
    (fun os started H enc _ => lifted os started H enc)
theorem proved : Rows.FnExactIsExpanderSaid :=
  over
end Go.Proofs.YtegbadciefljcaaGreat.fnExactIsExpander
end
