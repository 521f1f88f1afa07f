/- The law FnExactGlobalsOf holds: GlobalsOf answers as the reference's does. No condition. -/
import Derived.Test.YtehpjofddjmbpaaQ4
section
namespace Go.Proofs.Ytehpjofddjmbpaa
open Go Go.Proofs.Ytehpjofddjmbpaa.Ab
set_option linter.unusedVariables false
set_option linter.unusedSimpArgs false
set_option maxHeartbeats 4000000
abbrev globals (L : List Unit) : List Int := L.flatMap Unit.globals
abbrev P_c_l7Globals (L : List Unit) : Prop := CallOK Try.prog 113 [] [ll (L.map unitC)] [.arr true 1 ((globals L).map intC)] (.sv (.one (.ref 0)))
def Tc_l7GlobalsLa (L : List Unit) (x0 : SV) (x1 : Ob) : St := St.mk (regsOf 19 [(3, AV.sv (SV.one (AC.ref 0))), (7, AV.sv (ll (List.map unitC L))), (8, AV.sv (li (↑(List.length
 (List.map unitC L)) : Int))), (9, AV.sv x0)]) [x1] 0 
def Lc_l7GlobalsLa (L : List Unit) (k : Nat) : St := Tc_l7GlobalsLa L (li (↑k : Int)) (Ob.arr true 1 (List.map intC (globals (List.take k L)))) 
def Ic_l7GlobalsLa (L : List Unit) : Nat → St → Prop := Head (Lc_l7GlobalsLa L) (fun k => k ≤ List.length L ∧ List.length L ≤ 9223372036854775807) fun k => List.length L - k 
def W0c_l7GlobalsLa (L : List Unit) (x0 : Ob) : St := St.mk (regsOf 19 [(3, AV.sv (SV.one (AC.ref 0)))]) [x0] 0 
def Yc_l7GlobalsLa (L : List Unit) : List (Prop × AEx × St) := [(True, AEx.exit 0, W0c_l7GlobalsLa L (Ob.arr true 1 (List.map intC (globals L))))]
theorem Hc_l7GlobalsLa {L : List Unit} {k : Nat} {m : Nat} (h : (fun k => k ≤ List.length L ∧ List.length L ≤ 9223372036854775807) k) (hm : (fun k => List.length L - k) k = m) :
 Ic_l7GlobalsLa L m (Lc_l7GlobalsLa L k) := hm ▸ Head.mk h
theorem Ec_l7GlobalsLa {L : List Unit} {k : Nat} {x0 : SV} {x1 : Ob} (h0 : x0 = (li (↑k : Int))) (h1 : x1 = (Ob.arr true 1 (List.map intC (globals (List.take k L))))) :
 Tc_l7GlobalsLa L x0 x1 = Lc_l7GlobalsLa L k := by
  rw [h0, h1]
  rfl
theorem EW0c_l7GlobalsLa {L : List Unit} {x0 y0 : Ob} (h0 : x0 = y0) : W0c_l7GlobalsLa L x0 = W0c_l7GlobalsLa L y0 := by rw [h0]
theorem run_c_l7GlobalsLa (L : List Unit) (k : Nat) : aexec Try.prog (loopAt Try.f113 0) (Lc_l7GlobalsLa L k) [Orc.br [Orc.cells (unitF (List.getD L k default)), Orc.ghost
 (Ghost.sel [2] [3, 7, 8, 9]), Orc.goto (List.length L - (k + 1)) (Lc_l7GlobalsLa L (k + 1))] [Orc.ghost (Ghost.sel [0] [3]), Orc.out 0]] (loopK (Ic_l7GlobalsLa L) (Yc_l7GlobalsLa
 L) (List.length L - k)) = ((decide ((↑k : Int) < (↑(List.length (List.map unitC L)) : Int)) = true → (0 ≤ (↑k : Int) ∧ (List.map unitC L)[Int.toNat (↑k : Int)]? = some (unitF
 (List.getD L k default))) ∧ (∀ (e : List Cell), e ∈ List.map intC (Unit.globals (List.getD L k default)) → ∀ (c : Cell), c ∈ e → ∃ v, c = Cell.lit v) ∧ (∀ (e : List Cell), e ∈
 List.map intC (Unit.globals (List.getD L k default)) → List.length e = 1) ∧ (List.length (List.map intC (globals (List.take k L))) + List.length (List.map intC (Unit.globals
 (List.getD L k default)))) * 8 ≤ 140737488355328 ∧ rng IntKind.i64 ((↑k : Int) + 1) ∧ List.length L - (k + 1) < List.length L - k ∧ Tc_l7GlobalsLa L (li ((↑k : Int) + 1)) (Ob.arr
 true 1 (List.map intC (globals (List.take k L)) ++ List.map intC (Unit.globals (List.getD L k default)))) = Lc_l7GlobalsLa L (k + 1) ∧ Ic_l7GlobalsLa L (List.length L - (k + 1))
 (Lc_l7GlobalsLa L (k + 1))) ∧ (decide ((↑k : Int) < (↑(List.length (List.map unitC L)) : Int)) = false → True ∧ W0c_l7GlobalsLa L (Ob.arr true 1 (List.map intC (globals (List.take
 k L)))) = W0c_l7GlobalsLa L (Ob.arr true 1 (List.map intC (globals L))))) := by kernel_rfl
theorem Sc_l7GlobalsLa (L : List Unit) (h : List.length (globals L) ≤ 2147483647)  : LoopSem Try.prog (loopAt Try.f113 0) (Ic_l7GlobalsLa L) (Yc_l7GlobalsLa L) := by
  refine LoopSem.ofHead wide fun k h => ⟨_, _, run_c_l7GlobalsLa L k, ?_⟩
  have g0 := flat_takeLe Unit.globals L (k + 1)
  with_reducible repeat' (first | apply And.intro | exact flatI | exact flatS | exact rowLens | (intro; skip) | apply obsN | apply obsC | apply obA | apply obM | apply obB | apply svA | apply tupA | apply lcA | apply lcS | apply svC | apply liC | apply lbC | apply lsC | apply vIc | apply vBc | apply vSc | apply vLc | apply mapC | apply Hc_l7GlobalsLa | apply Ec_l7GlobalsLa | apply EW0c_l7GlobalsLa)
  all_goals (try simp only [std] at *)
  all_goals (try (first | with_reducible rfl | omega | assumption | (refine (decide_eq_true ?_).symm; assumption) | (refine (decide_eq_false ?_).symm; assumption) | (refine rowGet ?_; (first | omega | (simp only [std]; omega) | grind)) | (refine getC ?_ rfl; (first | omega | (simp only [std]; omega) | grind)) | (refine fill_step ?_ ?_; (first | omega | (simp only [std]; omega) | grind); (first | rfl | exact (Row.eq _).trans rfl)) | (refine fill_init ?_; (first | rfl | exact (Row.eq _).trans rfl)) | grind [flat_take, snocI, snocS, rowSnoc, getD_mem']))
theorem run_c_l7Globals (L : List Unit) : aexec Try.prog (Option.getD (Func.body Try.f113) Code.skip) (entry [] [ll (List.map unitC L)] 19) [Orc.ghost (Ghost.sel [0] [3, 7, 8, 9]),
 Orc.loop (List.length L - 0) (Lc_l7GlobalsLa L 0) (Ic_l7GlobalsLa L) [(True, AEx.exit 0, W0c_l7GlobalsLa L (Ob.arr true 1 (List.map intC (globals L))), [Orc.fin [0]])]] (finK
 Try.prog [ResultVar.tmp 2] [Ob.arr true 1 (List.map intC (globals L))] (AV.sv (SV.one (AC.ref 0)))) = (List.length (List.map unitC L) ≤ 9223372036854775807 → Tc_l7GlobalsLa L (li
 0) (Ob.arr true 1 []) = Lc_l7GlobalsLa L 0 ∧ Ic_l7GlobalsLa L (List.length L - 0) (Lc_l7GlobalsLa L 0) ∧ LoopSem Try.prog (loopAt Try.f113 0) (Ic_l7GlobalsLa L) (Yc_l7GlobalsLa L)
 ∧ (True → ObsEq [Ob.arr true 1 (List.map intC (globals L))] [Ob.arr true 1 (List.map intC (globals L))] ∧ AV.sv (SV.one (AC.ref 0)) = AV.sv (SV.one (AC.ref 0))) ∧ True) := by
 kernel_rfl
theorem c_l7Globals (L : List Unit) (h : (globals L).length ≤ 2147483647)  : P_c_l7Globals L := by
  refine CallOK.ofRun wide (run_c_l7Globals L) Try.call113 Try.func113 rfl rfl rfl ?_
  with_reducible repeat' (first | apply And.intro | exact flatI | exact flatS | exact rowLens | (intro; skip) | apply obsN | apply obsC | apply obA | apply obM | apply obB | apply svA | apply tupA | apply lcA | apply lcS | apply svC | apply liC | apply lbC | apply lsC | apply vIc | apply vBc | apply vSc | apply vLc | apply mapC | apply Hc_l7GlobalsLa | apply Ec_l7GlobalsLa | apply Sc_l7GlobalsLa | apply EW0c_l7GlobalsLa)
  all_goals (try simp only [std] at *)
  all_goals (try (first | with_reducible rfl | omega | assumption | (refine (decide_eq_true ?_).symm; assumption) | (refine (decide_eq_false ?_).symm; assumption) | (refine rowGet ?_; (first | omega | (simp only [std]; omega) | grind)) | (refine getC ?_ rfl; (first | omega | (simp only [std]; omega) | grind)) | (refine fill_step ?_ ?_; (first | omega | (simp only [std]; omega) | grind); (first | rfl | exact (Row.eq _).trans rfl)) | (refine fill_init ?_; (first | rfl | exact (Row.eq _).trans rfl)) | grind [snocI, snocS, rowSnoc]))
abbrev P_c_sGlobalsOf (L : List Unit) : Prop := CallOK Try.prog 25 [] [ll (L.map unitC)] [.arr true 1 ((globals L).map intC)] (.sv (.one (.ref 0)))
theorem run_c_sGlobalsOf (L : List Unit) : aexec Try.prog (Option.getD (Func.body Try.f25) Code.skip) (entry [] [ll (List.map unitC L)] 5) [Orc.call [Mode.rd] [Ob.arr true 1
 (List.map intC (globals L))] (AV.sv (SV.one (AC.ref 0))), Orc.fin [0]] (finK Try.prog [ResultVar.tmp 2] [Ob.arr true 1 (List.map intC (globals L))] (AV.sv (SV.one (AC.ref 0)))) =
 (P_c_l7Globals L ∧ ObsEq [Ob.arr true 1 (List.map intC (globals L))] [Ob.arr true 1 (List.map intC (globals L))] ∧ AV.sv (SV.one (AC.ref 0)) = AV.sv (SV.one (AC.ref 0))) := by
 kernel_rfl
theorem c_sGlobalsOf (L : List Unit) (h : (globals L).length ≤ 2147483647)  : P_c_sGlobalsOf L := by
  refine CallOK.ofRun wide (run_c_sGlobalsOf L) Try.call25 Try.func25 rfl rfl rfl ?_
  with_reducible repeat' (first | apply And.intro | exact flatI | exact flatS | exact rowLens | (intro; skip) | apply obsN | apply obsC | apply obA | apply obM | apply obB | apply svA | apply tupA | apply lcA | apply lcS | apply svC | apply liC | apply lbC | apply lsC | apply vIc | apply vBc | apply vSc | apply vLc | apply mapC | apply c_l7Globals)
  all_goals (try simp only [std] at *)
  all_goals (try (first | with_reducible rfl | omega | assumption | (refine (decide_eq_true ?_).symm; assumption) | (refine (decide_eq_false ?_).symm; assumption) | (refine rowGet ?_; (first | omega | (simp only [std]; omega) | grind)) | (refine getC ?_ rfl; (first | omega | (simp only [std]; omega) | grind)) | (refine fill_step ?_ ?_; (first | omega | (simp only [std]; omega) | grind); (first | rfl | exact (Row.eq _).trans rfl)) | (refine fill_init ?_; (first | rfl | exact (Row.eq _).trans rfl)) | grind [snocI, snocS, rowSnoc]))
abbrev P_c_iGlobalsOf (L : List Unit) : Prop := CallOK Try.prog 27 [] [ll (L.map unitC)] [.arr true 1 ((globals L).map intC)] (.sv (.one (.ref 0)))
def Tc_iGlobalsOfLa (L : List Unit) (x0 : SV) (x1 : Ob) : St := St.mk (regsOf 18 [(3, AV.sv (SV.one (AC.ref 0))), (6, AV.sv (ll (List.map unitC L))), (7, AV.sv (li (↑(List.length
 (List.map unitC L)) : Int))), (8, AV.sv x0)]) [x1] 0 
def Lc_iGlobalsOfLa (L : List Unit) (k : Nat) : St := Tc_iGlobalsOfLa L (li (↑k : Int)) (Ob.arr true 1 (List.map intC (globals (List.take k L)))) 
def Ic_iGlobalsOfLa (L : List Unit) : Nat → St → Prop := Head (Lc_iGlobalsOfLa L) (fun k => k ≤ List.length L ∧ List.length L ≤ 9223372036854775807) fun k => List.length L - k 
def W0c_iGlobalsOfLa (L : List Unit) (x0 : Ob) : St := St.mk (regsOf 18 [(3, AV.sv (SV.one (AC.ref 0)))]) [x0] 0 
def Yc_iGlobalsOfLa (L : List Unit) : List (Prop × AEx × St) := [(True, AEx.exit 0, W0c_iGlobalsOfLa L (Ob.arr true 1 (List.map intC (globals L))))]
theorem Hc_iGlobalsOfLa {L : List Unit} {k : Nat} {m : Nat} (h : (fun k => k ≤ List.length L ∧ List.length L ≤ 9223372036854775807) k) (hm : (fun k => List.length L - k) k = m) :
 Ic_iGlobalsOfLa L m (Lc_iGlobalsOfLa L k) := hm ▸ Head.mk h
theorem Ec_iGlobalsOfLa {L : List Unit} {k : Nat} {x0 : SV} {x1 : Ob} (h0 : x0 = (li (↑k : Int))) (h1 : x1 = (Ob.arr true 1 (List.map intC (globals (List.take k L))))) :
 Tc_iGlobalsOfLa L x0 x1 = Lc_iGlobalsOfLa L k := by
  rw [h0, h1]
  rfl
theorem EW0c_iGlobalsOfLa {L : List Unit} {x0 y0 : Ob} (h0 : x0 = y0) : W0c_iGlobalsOfLa L x0 = W0c_iGlobalsOfLa L y0 := by rw [h0]
theorem run_c_iGlobalsOfLa (L : List Unit) (k : Nat) : aexec Try.prog (loopAt Try.f27 0) (Lc_iGlobalsOfLa L k) [Orc.br [Orc.cells (unitF (List.getD L k default)), Orc.ghost
 (Ghost.sel [2] [3, 6, 7, 8]), Orc.goto (List.length L - (k + 1)) (Lc_iGlobalsOfLa L (k + 1))] [Orc.ghost (Ghost.sel [0] [3]), Orc.out 0]] (loopK (Ic_iGlobalsOfLa L)
 (Yc_iGlobalsOfLa L) (List.length L - k)) = ((decide ((↑k : Int) < (↑(List.length (List.map unitC L)) : Int)) = true → (0 ≤ (↑k : Int) ∧ (List.map unitC L)[Int.toNat (↑k : Int)]? =
 some (unitF (List.getD L k default))) ∧ (∀ (e : List Cell), e ∈ List.map intC (Unit.globals (List.getD L k default)) → ∀ (c : Cell), c ∈ e → ∃ v, c = Cell.lit v) ∧ (∀ (e : List
 Cell), e ∈ List.map intC (Unit.globals (List.getD L k default)) → List.length e = 1) ∧ (List.length (List.map intC (globals (List.take k L))) + List.length (List.map intC
 (Unit.globals (List.getD L k default)))) * 8 ≤ 140737488355328 ∧ rng IntKind.i64 ((↑k : Int) + 1) ∧ List.length L - (k + 1) < List.length L - k ∧ Tc_iGlobalsOfLa L (li ((↑k : Int)
 + 1)) (Ob.arr true 1 (List.map intC (globals (List.take k L)) ++ List.map intC (Unit.globals (List.getD L k default)))) = Lc_iGlobalsOfLa L (k + 1) ∧ Ic_iGlobalsOfLa L
 (List.length L - (k + 1)) (Lc_iGlobalsOfLa L (k + 1))) ∧ (decide ((↑k : Int) < (↑(List.length (List.map unitC L)) : Int)) = false → True ∧ W0c_iGlobalsOfLa L (Ob.arr true 1
 (List.map intC (globals (List.take k L)))) = W0c_iGlobalsOfLa L (Ob.arr true 1 (List.map intC (globals L))))) := by kernel_rfl
theorem Sc_iGlobalsOfLa (L : List Unit) (h : List.length (globals L) ≤ 2147483647)  : LoopSem Try.prog (loopAt Try.f27 0) (Ic_iGlobalsOfLa L) (Yc_iGlobalsOfLa L) := by
  refine LoopSem.ofHead wide fun k h => ⟨_, _, run_c_iGlobalsOfLa L k, ?_⟩
  have g0 := flat_takeLe Unit.globals L (k + 1)
  with_reducible repeat' (first | apply And.intro | exact flatI | exact flatS | exact rowLens | (intro; skip) | apply obsN | apply obsC | apply obA | apply obM | apply obB | apply svA | apply tupA | apply lcA | apply lcS | apply svC | apply liC | apply lbC | apply lsC | apply vIc | apply vBc | apply vSc | apply vLc | apply mapC | apply Hc_iGlobalsOfLa | apply Ec_iGlobalsOfLa | apply EW0c_iGlobalsOfLa)
  all_goals (try simp only [std] at *)
  all_goals (try (first | with_reducible rfl | omega | assumption | (refine (decide_eq_true ?_).symm; assumption) | (refine (decide_eq_false ?_).symm; assumption) | (refine rowGet ?_; (first | omega | (simp only [std]; omega) | grind)) | (refine getC ?_ rfl; (first | omega | (simp only [std]; omega) | grind)) | (refine fill_step ?_ ?_; (first | omega | (simp only [std]; omega) | grind); (first | rfl | exact (Row.eq _).trans rfl)) | (refine fill_init ?_; (first | rfl | exact (Row.eq _).trans rfl)) | grind [flat_take, snocI, snocS, rowSnoc, getD_mem']))
theorem run_c_iGlobalsOf (L : List Unit) : aexec Try.prog (Option.getD (Func.body Try.f27) Code.skip) (entry [] [ll (List.map unitC L)] 18) [Orc.ghost (Ghost.nilreg 3 true 1),
 Orc.ghost (Ghost.sel [0] [3, 6, 7, 8]), Orc.loop (List.length L - 0) (Lc_iGlobalsOfLa L 0) (Ic_iGlobalsOfLa L) [(True, AEx.exit 0, W0c_iGlobalsOfLa L (Ob.arr true 1 (List.map intC
 (globals L))), [Orc.fin [0]])]] (finK Try.prog [ResultVar.tmp 2] [Ob.arr true 1 (List.map intC (globals L))] (AV.sv (SV.one (AC.ref 0)))) = (List.length (List.map unitC L) ≤
 9223372036854775807 → Tc_iGlobalsOfLa L (li 0) (Ob.arr true 1 []) = Lc_iGlobalsOfLa L 0 ∧ Ic_iGlobalsOfLa L (List.length L - 0) (Lc_iGlobalsOfLa L 0) ∧ LoopSem Try.prog (loopAt
 Try.f27 0) (Ic_iGlobalsOfLa L) (Yc_iGlobalsOfLa L) ∧ (True → ObsEq [Ob.arr true 1 (List.map intC (globals L))] [Ob.arr true 1 (List.map intC (globals L))] ∧ AV.sv (SV.one (AC.ref
 0)) = AV.sv (SV.one (AC.ref 0))) ∧ True) := by kernel_rfl
theorem c_iGlobalsOf (L : List Unit) (h : (globals L).length ≤ 2147483647)  : P_c_iGlobalsOf L := by
  refine CallOK.ofRun wide (run_c_iGlobalsOf L) Try.call27 Try.func27 rfl rfl rfl ?_
  with_reducible repeat' (first | apply And.intro | exact flatI | exact flatS | exact rowLens | (intro; skip) | apply obsN | apply obsC | apply obA | apply obM | apply obB | apply svA | apply tupA | apply lcA | apply lcS | apply svC | apply liC | apply lbC | apply lsC | apply vIc | apply vBc | apply vSc | apply vLc | apply mapC | apply Hc_iGlobalsOfLa | apply Ec_iGlobalsOfLa | apply Sc_iGlobalsOfLa | apply EW0c_iGlobalsOfLa)
  all_goals (try simp only [std] at *)
  all_goals (try (first | with_reducible rfl | omega | assumption | (refine (decide_eq_true ?_).symm; assumption) | (refine (decide_eq_false ?_).symm; assumption) | (refine rowGet ?_; (first | omega | (simp only [std]; omega) | grind)) | (refine getC ?_ rfl; (first | omega | (simp only [std]; omega) | grind)) | (refine fill_step ?_ ?_; (first | omega | (simp only [std]; omega) | grind); (first | rfl | exact (Row.eq _).trans rfl)) | (refine fill_init ?_; (first | rfl | exact (Row.eq _).trans rfl)) | grind [snocI, snocS, rowSnoc]))
end Go.Proofs.Ytehpjofddjmbpaa
end
section
namespace Go.Proofs.Ytehpjofddjmbpaa
open Go Go.Proofs.Ytehpjofddjmbpaa.Ab
set_option linter.unusedVariables false
set_option linter.unusedSimpArgs false
set_option maxHeartbeats 4000000
abbrev P_c_markIntS (L : List Int) (n : Int) : Prop := CallOK Try.prog 31 [.arr true 1 (L.map intC)] [.one (.ref 0), li n] [.arr true 1 ((seqM mkI cOne L n).map intC)] (.sv (li (n + L.length)))
def Tc_markIntSLa (L : List Int) (n : Int) (x0 : SV) (x1 : SV) (x2 : Ob) : St := St.mk (regsOf 19 [(0, AV.sv (SV.one (AC.ref 0))), (1, AV.sv x1), (5, AV.sv x0)]) [x2] 1 
def Lc_markIntSLa (L : List Int) (n : Int) (k : Nat) : St := Tc_markIntSLa L n (li (↑k : Int)) (li (n + (↑k : Int))) (Ob.arr true 1 (List.map intC (mkTo mkI cOne L n k))) 
def Ic_markIntSLa (L : List Int) (n : Int) : Nat → St → Prop := Head (Lc_markIntSLa L n) (fun k => k ≤ List.length L ∧ List.length L ≤ 9223372036854775807) fun k => List.length L -
 k 
def W0c_markIntSLa (L : List Int) (n : Int) (x0 : SV) (x1 : Ob) : St := St.mk (regsOf 19 [(1, AV.sv x0)]) [x1] 1 
def Yc_markIntSLa (L : List Int) (n : Int) : List (Prop × AEx × St) := [(True, AEx.exit 0, W0c_markIntSLa L n (li (n + (↑(List.length L) : Int))) (Ob.arr true 1 (List.map intC
 (seqM mkI cOne L n))))]
theorem Hc_markIntSLa {L : List Int} {n : Int} {k : Nat} {m : Nat} (h : (fun k => k ≤ List.length L ∧ List.length L ≤ 9223372036854775807) k) (hm : (fun k => List.length L - k) k =
 m) : Ic_markIntSLa L n m (Lc_markIntSLa L n k) := hm ▸ Head.mk h
theorem Ec_markIntSLa {L : List Int} {n : Int} {k : Nat} {x0 : SV} {x1 : SV} {x2 : Ob} (h0 : x0 = (li (↑k : Int))) (h1 : x1 = (li (n + (↑k : Int)))) (h2 : x2 = (Ob.arr true 1
 (List.map intC (mkTo mkI cOne L n k)))) : Tc_markIntSLa L n x0 x1 x2 = Lc_markIntSLa L n k := by
  rw [h0, h1, h2]
  rfl
theorem EW0c_markIntSLa {L : List Int} {n : Int} {x0 y0 : SV} {x1 y1 : Ob} (h0 : x0 = y0) (h1 : x1 = y1) : W0c_markIntSLa L n x0 x1 = W0c_markIntSLa L n y0 y1 := by rw [h0, h1]
theorem run_c_markIntSLa (L : List Int) (n : Int) (k : Nat) : aexec Try.prog (loopAt Try.f31 0) (Lc_markIntSLa L n k) [Orc.br [Orc.cells (intC (List.getD L (Int.toNat (↑k : Int))
 default)), Orc.ghost (Ghost.sel [0] [0, 1, 5]), Orc.goto (List.length L - (k + 1)) (Lc_markIntSLa L n (k + 1))] [Orc.ghost (Ghost.sel [0] [1]), Orc.out 0]] (loopK (Ic_markIntSLa L
 n) (Yc_markIntSLa L n) (List.length L - k)) = (List.length (List.map intC (mkTo mkI cOne L n k)) ≤ 9223372036854775807 → (decide ((↑k : Int) < (↑(List.length (List.map intC (mkTo
 mkI cOne L n k))) : Int)) = true → (0 ≤ (↑k : Int) ∧ Int.toNat (↑k : Int) < List.length (List.map intC (mkTo mkI cOne L n k))) ∧ (List.map intC (mkTo mkI cOne L n k))[Int.toNat
 (↑k : Int)]? = some [cI (List.getD L (Int.toNat (↑k : Int)) 0)] ∧ rng IntKind.i64 (n + (↑k : Int) + 1) ∧ rng IntKind.i64 ((↑k : Int) + 1) ∧ List.length L - (k + 1) < List.length L
 - k ∧ Tc_markIntSLa L n (li ((↑k : Int) + 1)) (li (n + (↑k : Int) + 1)) (Ob.arr true 1 (List.set (List.map intC (mkTo mkI cOne L n k)) (Int.toNat (↑k : Int)) [cI (n + (↑k :
 Int))])) = Lc_markIntSLa L n (k + 1) ∧ Ic_markIntSLa L n (List.length L - (k + 1)) (Lc_markIntSLa L n (k + 1))) ∧ (decide ((↑k : Int) < (↑(List.length (List.map intC (mkTo mkI
 cOne L n k))) : Int)) = false → True ∧ W0c_markIntSLa L n (li (n + (↑k : Int))) (Ob.arr true 1 (List.map intC (mkTo mkI cOne L n k))) = W0c_markIntSLa L n (li (n + (↑(List.length
 L) : Int))) (Ob.arr true 1 (List.map intC (seqM mkI cOne L n))))) := by kernel_rfl
theorem Sc_markIntSLa (L : List Int) (n : Int) (h0 : 0 ≤ n) (h : n + (↑(List.length L) : Int) ≤ 2147483647)  : LoopSem Try.prog (loopAt Try.f31 0) (Ic_markIntSLa L n)
 (Yc_markIntSLa L n) := by
  refine LoopSem.ofHead wide fun k h => ⟨_, _, run_c_markIntSLa L n k, ?_⟩
  with_reducible repeat' (first | apply And.intro | exact flatI | exact flatS | exact rowLens | (intro; skip) | apply obsN | apply obsC | apply obA | apply obM | apply obB | apply svA | apply tupA | apply lcA | apply lcS | apply svC | apply liC | apply lbC | apply lsC | apply vIc | apply vBc | apply vSc | apply vLc | apply mapC | apply Hc_markIntSLa | apply Ec_markIntSLa | apply EW0c_markIntSLa)
  all_goals (try simp only [std, stdM] at *)
  all_goals (try (first | with_reducible rfl | omega | assumption | (refine (decide_eq_true ?_).symm; assumption) | (refine (decide_eq_false ?_).symm; assumption) | (refine rowGet ?_; (first | omega | (simp only [std, stdM]; omega) | grind)) | (refine getC ?_ rfl; (first | omega | (simp only [std, stdM]; omega) | grind)) | (refine fill_step ?_ ?_; (first | omega | (simp only [std, stdM]; omega) | grind); (first | rfl | exact (Row.eq _).trans rfl)) | (refine fill_init ?_; (first | rfl | exact (Row.eq _).trans rfl)) | (refine set_row ?_; (simp only [List.length_map, List.length_set, mkTo_len]; omega)) | (refine mkToRow ?_; (first | omega | (simp only [std, stdM]; omega) | grind)) | (refine mkTo_row ?_ rfl; (first | omega | (simp only [std, stdM]; omega) | grind)) | (refine mkTo_step ?_ ?_; (first | omega | (simp only [std, stdM]; omega) | grind); (first | grind [mkTo_all, mkI, cOne_take, intC, mkTo_get, snocI, snocS, rowSnoc])) | grind [mkTo_all, mkI, cOne_take, intC, mkTo_get, snocI, snocS, rowSnoc]))
theorem run_c_markIntS (L : List Int) (n : Int) : aexec Try.prog (Option.getD (Func.body Try.f31) Code.skip) (entry [Ob.arr true 1 (List.map intC L)] [SV.one (AC.ref 0), li n] 19)
 [Orc.ghost (Ghost.sel [0] [0, 1, 5]), Orc.loop (List.length L - 0) (Lc_markIntSLa L n 0) (Ic_markIntSLa L n) [(True, AEx.exit 0, W0c_markIntSLa L n (li (n + (↑(List.length L) :
 Int))) (Ob.arr true 1 (List.map intC (seqM mkI cOne L n))), [Orc.fin []])]] (finK Try.prog [ResultVar.tmp 4] [Ob.arr true 1 (List.map intC (seqM mkI cOne L n))] (AV.sv (li (n +
 (↑(List.length L) : Int))))) = (Tc_markIntSLa L n (li 0) (li n) (Ob.arr true 1 (List.map intC L)) = Lc_markIntSLa L n 0 ∧ Ic_markIntSLa L n (List.length L - 0) (Lc_markIntSLa L n
 0) ∧ LoopSem Try.prog (loopAt Try.f31 0) (Ic_markIntSLa L n) (Yc_markIntSLa L n) ∧ (True → ObsEq [Ob.arr true 1 (List.map intC (seqM mkI cOne L n))] [Ob.arr true 1 (List.map intC
 (seqM mkI cOne L n))] ∧ AV.sv (li (n + (↑(List.length L) : Int))) = AV.sv (li (n + (↑(List.length L) : Int)))) ∧ True) := by kernel_rfl
theorem c_markIntS (L : List Int) (n : Int) (h0 : 0 ≤ n) (h : n + L.length ≤ 2147483647)  : P_c_markIntS L n := by
  refine CallOK.ofRun wide (run_c_markIntS L n) Try.call31 Try.func31 rfl rfl rfl ?_
  with_reducible repeat' (first | apply And.intro | exact flatI | exact flatS | exact rowLens | (intro; skip) | apply obsN | apply obsC | apply obA | apply obM | apply obB | apply svA | apply tupA | apply lcA | apply lcS | apply svC | apply liC | apply lbC | apply lsC | apply vIc | apply vBc | apply vSc | apply vLc | apply mapC | apply Hc_markIntSLa | apply Ec_markIntSLa | apply Sc_markIntSLa | apply EW0c_markIntSLa)
  all_goals (try simp only [std, stdM] at *)
  all_goals (try (first | with_reducible rfl | omega | assumption | (refine (decide_eq_true ?_).symm; assumption) | (refine (decide_eq_false ?_).symm; assumption) | (refine rowGet ?_; (first | omega | (simp only [std, stdM]; omega) | grind)) | (refine getC ?_ rfl; (first | omega | (simp only [std, stdM]; omega) | grind)) | (refine fill_step ?_ ?_; (first | omega | (simp only [std, stdM]; omega) | grind); (first | rfl | exact (Row.eq _).trans rfl)) | (refine fill_init ?_; (first | rfl | exact (Row.eq _).trans rfl)) | (refine set_row ?_; (simp only [List.length_map, List.length_set, mkTo_len]; omega)) | (refine mkToRow ?_; (first | omega | (simp only [std, stdM]; omega) | grind)) | (refine mkTo_row ?_ rfl; (first | omega | (simp only [std, stdM]; omega) | grind)) | (refine mkTo_step ?_ ?_; (first | omega | (simp only [std, stdM]; omega) | grind); (first | grind [mkTo_zero, snocI, snocS, rowSnoc])) | grind [mkTo_zero, snocI, snocS, rowSnoc]))
abbrev P_c_markText (n : Int) : Prop := CallOK Try.prog 114 [] [li n] [] (.sv (ls (mText n)))
def Tc_markTextLa (n : Int) (x0 : SV) (x1 : SV) : St := St.mk (regsOf 20 [(0, AV.sv x0), (3, AV.sv x1)]) [] 0 
def Lc_markTextLa (n : Int) (k : Int × List UInt8) : St := Tc_markTextLa n (li (Prod.fst k)) (ls (mkS (Prod.snd k))) 
def Ic_markTextLa (n : Int) : Nat → St → Prop := Head (Lc_markTextLa n) (fun k => 0 ≤ Prod.fst k ∧ Prod.fst k ≤ n ∧ digs (Int.toNat (Prod.fst k)) ++ Prod.snd k = digs (Int.toNat
 n)) fun k => Int.toNat (Prod.fst k) 
def W0c_markTextLa (n : Int) (x0 : SV) : St := St.mk (regsOf 20 [(3, AV.sv x0)]) [] 0 
def Yc_markTextLa (n : Int) : List (Prop × AEx × St) := [(True, AEx.exit 0, W0c_markTextLa n (ls (mkS (digs (Int.toNat n)))))]
theorem Hc_markTextLa {n : Int} {k : Int × List UInt8} {m : Nat} (h : (fun k => 0 ≤ Prod.fst k ∧ Prod.fst k ≤ n ∧ digs (Int.toNat (Prod.fst k)) ++ Prod.snd k = digs (Int.toNat n))
 k) (hm : (fun k => Int.toNat (Prod.fst k)) k = m) : Ic_markTextLa n m (Lc_markTextLa n k) := hm ▸ Head.mk h
theorem Ec_markTextLa {n : Int} {k : Int × List UInt8} {x0 : SV} {x1 : SV} (h0 : x0 = (li (Prod.fst k))) (h1 : x1 = (ls (mkS (Prod.snd k)))) : Tc_markTextLa n x0 x1 = Lc_markTextLa
 n k := by
  rw [h0, h1]
  rfl
theorem EW0c_markTextLa {n : Int} {x0 y0 : SV} (h0 : x0 = y0) : W0c_markTextLa n x0 = W0c_markTextLa n y0 := by rw [h0]
theorem run_c_markTextLa (n : Int) (k : Int × List UInt8) : aexec Try.prog (loopAt Try.f114 0) (Lc_markTextLa n k) [Orc.br [Orc.bytes [UInt8.ofNat (Int.toNat (48 + Int.tmod
 (Prod.fst k) 10))], Orc.ghost (Ghost.sel [] [0, 3]), Orc.goto (Int.toNat (Int.tdiv (Prod.fst k) 10)) (Lc_markTextLa n (Int.tdiv (Prod.fst k) 10, [UInt8.ofNat (Int.toNat (48 +
 Int.tmod (Prod.fst k) 10))] ++ Prod.snd k))] [Orc.ghost (Ghost.sel [] [3]), Orc.out 0]] (loopK (Ic_markTextLa n) (Yc_markTextLa n) (Int.toNat (Prod.fst k))) = ((decide (0 <
 Prod.fst k) = true → (10 : Int) ≠ 0 ∧ rng IntKind.i64 (48 + Int.tmod (Prod.fst k) 10) ∧ rng IntKind.u8 (48 + Int.tmod (Prod.fst k) 10) ∧ [[Cell.lit (Value.int IntKind.u8 (48 +
 Int.tmod (Prod.fst k) 10))]] = [[Cell.lit (Value.int IntKind.u8 (↑(UInt8.toNat (UInt8.ofNat (Int.toNat (48 + Int.tmod (Prod.fst k) 10)))) : Int))]] ∧ 1 + List.length (Prod.snd k)
 ≤ 9223372036854775807 ∧ (10 : Int) ≠ 0 ∧ rng IntKind.i64 (Int.tdiv (Prod.fst k) 10) ∧ Int.toNat (Int.tdiv (Prod.fst k) 10) < Int.toNat (Prod.fst k) ∧ Tc_markTextLa n (li (Int.tdiv
 (Prod.fst k) 10)) (ls (ByteArray.mk (List.toArray ([UInt8.ofNat (Int.toNat (48 + Int.tmod (Prod.fst k) 10))] ++ Prod.snd k)))) = Lc_markTextLa n (Int.tdiv (Prod.fst k) 10,
 [UInt8.ofNat (Int.toNat (48 + Int.tmod (Prod.fst k) 10))] ++ Prod.snd k) ∧ Ic_markTextLa n (Int.toNat (Int.tdiv (Prod.fst k) 10)) (Lc_markTextLa n (Int.tdiv (Prod.fst k) 10,
 [UInt8.ofNat (Int.toNat (48 + Int.tmod (Prod.fst k) 10))] ++ Prod.snd k))) ∧ (decide (0 < Prod.fst k) = false → True ∧ W0c_markTextLa n (ls (mkS (Prod.snd k))) = W0c_markTextLa n
 (ls (mkS (digs (Int.toNat n)))))) := by kernel_rfl
theorem Sc_markTextLa (n : Int) (h0 : 0 ≤ n) (h : n ≤ 2147483647)  : LoopSem Try.prog (loopAt Try.f114 0) (Ic_markTextLa n) (Yc_markTextLa n) := by
  refine LoopSem.ofHead wide fun k h => ⟨_, _, run_c_markTextLa n k, ?_⟩
  obtain ⟨i, l⟩ := k
  simp only at *
  obtain ⟨g1, g2, g3⟩ := h
  have g4 : l.length ≤ 2147483647 := by
    have := congrArg List.length g3
    have := digs_len n.toNat
    simp only [List.length_append] at *
    omega
  simp only [Int.tmod_eq_emod_of_nonneg g1, Int.tdiv_eq_ediv_of_nonneg g1]
  refine ⟨fun g => ?_, fun g => ?_⟩
  · have g : 0 < i := of_decide_eq_true g
    refine ⟨by decide, by rw [rng64]; omega, by rw [rngu8]; omega, by rw [u8_int (by omega) (by omega)], by omega, by decide, by rw [rng64]; omega, by omega, ?_, ?_⟩
    · apply Ec_markTextLa <;> rfl
    · apply Hc_markTextLa
      · exact ⟨by show 0 ≤ i / 10; omega, by show i / 10 ≤ n; omega, by show digs (i / 10).toNat ++ ([_] ++ l) = _; rw [← g3, digs_int g, List.append_assoc]⟩
      · rfl
  · have g : ¬ 0 < i := of_decide_eq_false g
    refine ⟨trivial, ?_⟩
    have e : i = 0 := by omega
    subst e
    rw [show digs (0 : Int).toNat = [] from digs_zero] at g3
    rw [← g3]; rfl
theorem run_c_markText (n : Int) : aexec Try.prog (Option.getD (Func.body Try.f114) Code.skip) (entry [] [li n] 20) [Orc.br [Orc.fin []] [Orc.ghost (Ghost.sel [] [0, 3]), Orc.loop
 (Int.toNat n) (Lc_markTextLa n (n, [])) (Ic_markTextLa n) [(True, AEx.exit 0, W0c_markTextLa n (ls (mkS (digs (Int.toNat n)))), [Orc.fin []])]]] (finK Try.prog [ResultVar.tmp 2]
 [] (AV.sv (ls (mText n)))) = ((decide (n ≤ 0) = true → ObsEq [] [] ∧ AV.sv (ls (ByteArray.mk #[(109 : UInt8), (48 : UInt8)])) = AV.sv (ls (mText n))) ∧ (decide (n ≤ 0) = false →
 Tc_markTextLa n (li n) (ls (ByteArray.mk #[])) = Lc_markTextLa n (n, []) ∧ Ic_markTextLa n (Int.toNat n) (Lc_markTextLa n (n, [])) ∧ LoopSem Try.prog (loopAt Try.f114 0)
 (Ic_markTextLa n) (Yc_markTextLa n) ∧ (True → 1 + List.length (digs (Int.toNat n)) ≤ 9223372036854775807 ∧ ObsEq [] [] ∧ AV.sv (ls (ByteArray.mk (List.toArray ([(109 : UInt8)] ++
 digs (Int.toNat n))))) = AV.sv (ls (mText n))) ∧ True)) := by kernel_rfl
theorem c_markText (n : Int) (h0 : 0 ≤ n) (h : n ≤ 2147483647)  : P_c_markText n := by
  refine CallOK.ofRun wide (run_c_markText n) Try.call114 Try.func114 rfl rfl rfl ?_
  have g := digs_len n.toNat
  simp only [mText]
  with_reducible repeat' (first | apply And.intro | exact flatI | exact flatS | exact rowLens | (intro; skip) | apply obsN | apply obsC | apply obA | apply obM | apply obB | apply svA | apply tupA | apply lcA | apply lcS | apply svC | apply liC | apply lbC | apply lsC | apply vIc | apply vBc | apply vSc | apply vLc | apply mapC | apply Hc_markTextLa | apply Ec_markTextLa | apply Sc_markTextLa | apply EW0c_markTextLa)
  all_goals (try simp only [std, stdM] at *)
  all_goals (try (first | with_reducible rfl | omega | assumption | (refine (decide_eq_true ?_).symm; assumption) | (refine (decide_eq_false ?_).symm; assumption) | (refine rowGet ?_; (first | omega | (simp only [std, stdM]; omega) | grind)) | (refine getC ?_ rfl; (first | omega | (simp only [std, stdM]; omega) | grind)) | (refine fill_step ?_ ?_; (first | omega | (simp only [std, stdM]; omega) | grind); (first | rfl | exact (Row.eq _).trans rfl)) | (refine fill_init ?_; (first | rfl | exact (Row.eq _).trans rfl)) | (refine set_row ?_; (simp only [List.length_map, List.length_set, mkTo_len]; omega)) | (refine mkToRow ?_; (first | omega | (simp only [std, stdM]; omega) | grind)) | (refine mkTo_row ?_ rfl; (first | omega | (simp only [std, stdM]; omega) | grind)) | (refine mkTo_step ?_ ?_; (first | omega | (simp only [std, stdM]; omega) | grind); (first | grind [mkS, snocI, snocS, rowSnoc])) | grind [mkS, snocI, snocS, rowSnoc]))
abbrev P_c_markDatumS (x : Datum) (n : Int) : Prop := CallOK Try.prog 115 [.arr true 4 (x.items.map datumC)] [.one (.ref 0), li n] [.arr true 4 ((seqM mkD cD x.items n).map datumC)] (.sv (li (n + sumBy cD x.items)))
def Tc_markDatumS_sLa (x : Datum) (n : Int) (x0 : SV) (x1 : SV) (x2 : Ob) : St := St.mk (regsOf 42 [(0, AV.sv (SV.one (AC.ref 0))), (1, AV.sv x1), (5, AV.sv x0)]) [x2] 1 
def Lc_markDatumS_sLa (x : Datum) (n : Int) (k : Nat) : St := Tc_markDatumS_sLa x n (li (↑k : Int)) (li (n + (↑(sumBy cD (List.take k (Datum.items x))) : Int))) (Ob.arr true 4
 (List.map datumC (mkTo mkD cD (Datum.items x) n k))) 
def Ic_markDatumS_sLa (x : Datum) (n : Int) : Nat → St → Prop := Head (Lc_markDatumS_sLa x n) (fun k => k ≤ List.length (Datum.items x) ∧ List.length (Datum.items x) ≤
 9223372036854775807) fun k => List.length (Datum.items x) - k 
def W0c_markDatumS_sLa (x : Datum) (n : Int) (x0 : SV) (x1 : Ob) : St := St.mk (regsOf 42 [(1, AV.sv x0)]) [x1] 1 
def Yc_markDatumS_sLa (x : Datum) (n : Int) : List (Prop × AEx × St) := [(True, AEx.exit 0, W0c_markDatumS_sLa x n (li (n + (↑(sumBy cD (Datum.items x)) : Int))) (Ob.arr true 4
 (List.map datumC (seqM mkD cD (Datum.items x) n))))]
theorem Hc_markDatumS_sLa {x : Datum} {n : Int} {k : Nat} {m : Nat} (h : (fun k => k ≤ List.length (Datum.items x) ∧ List.length (Datum.items x) ≤ 9223372036854775807) k) (hm :
 (fun k => List.length (Datum.items x) - k) k = m) : Ic_markDatumS_sLa x n m (Lc_markDatumS_sLa x n k) := hm ▸ Head.mk h
theorem Ec_markDatumS_sLa {x : Datum} {n : Int} {k : Nat} {x0 : SV} {x1 : SV} {x2 : Ob} (h0 : x0 = (li (↑k : Int))) (h1 : x1 = (li (n + (↑(sumBy cD (List.take k (Datum.items x))) :
 Int)))) (h2 : x2 = (Ob.arr true 4 (List.map datumC (mkTo mkD cD (Datum.items x) n k)))) : Tc_markDatumS_sLa x n x0 x1 x2 = Lc_markDatumS_sLa x n k := by
  rw [h0, h1, h2]
  rfl
theorem EW0c_markDatumS_sLa {x : Datum} {n : Int} {x0 y0 : SV} {x1 y1 : Ob} (h0 : x0 = y0) (h1 : x1 = y1) : W0c_markDatumS_sLa x n x0 x1 = W0c_markDatumS_sLa x n y0 y1 := by rw
 [h0, h1]
abbrev a4__markDatumS_sLa (x : Datum) (k : Nat) := (↑(sumBy cD (List.take k (Datum.items x))) : Int)
abbrev a3__markDatumS_sLa (x : Datum) (k : Nat) := (List.getD (Datum.items x) (Int.toNat (↑k : Int)) default)
abbrev a8__markDatumS_sLa (x : Datum) (k : Nat) := (List.map datumC (Datum.items (a3__markDatumS_sLa x k)))
abbrev a1__markDatumS_sLa (x : Datum) (n : Int) (k : Nat) := [cI (n + (a4__markDatumS_sLa x k)), cI (n + (a4__markDatumS_sLa x k) + 1), cS (mText (n + (a4__markDatumS_sLa x k) + 1
 + 1)), Cell.list (a8__markDatumS_sLa x k)]
abbrev a2__markDatumS_sLa (x : Datum) (n : Int) (k : Nat) := [cI (n + (a4__markDatumS_sLa x k)), cI (n + (a4__markDatumS_sLa x k) + 1), cS (Datum.text (a3__markDatumS_sLa x k)),
 Cell.list (a8__markDatumS_sLa x k)]
abbrev a5__markDatumS_sLa (x : Datum) (n : Int) (k : Nat) := (List.map datumC (mkTo mkD cD (Datum.items x) n k))
abbrev a6__markDatumS_sLa (x : Datum) (n : Int) (k : Nat) := [cI (n + (a4__markDatumS_sLa x k)), cI (Datum.number (a3__markDatumS_sLa x k)), cS (Datum.text (a3__markDatumS_sLa x
 k)), Cell.list (a8__markDatumS_sLa x k)]
abbrev a7__markDatumS_sLa (x : Datum) (n : Int) (k : Nat) := (List.set (a5__markDatumS_sLa x n k) (Int.toNat (↑k : Int)) (a1__markDatumS_sLa x n k))
abbrev a9__markDatumS_sLa (x : Datum) (n : Int) (k : Nat) := (List.map datumC (seqM mkD cD (Datum.items (a3__markDatumS_sLa x k)) (n + (a4__markDatumS_sLa x k) + 1 + 1 + 1)))
abbrev a10__markDatumS_sLa (x : Datum) (n : Int) (k : Nat) := (li (n + (a4__markDatumS_sLa x k) + 1 + 1 + 1 + (↑(sumBy cD (Datum.items (a3__markDatumS_sLa x k))) : Int)))
theorem run_c_markDatumS_sLa (x : Datum) (n : Int) (k : Nat) : aexec Try.prog (loopAt Try.f115 0) (Lc_markDatumS_sLa x n k) [Orc.br [Orc.cells (datumF (a3__markDatumS_sLa x k)),
 Orc.take (a6__markDatumS_sLa x n k) (List.set (a5__markDatumS_sLa x n k) (Int.toNat (↑k : Int)) (a2__markDatumS_sLa x n k)) 0, Orc.call [Mode.rd] [] (AV.sv (ls (mText (n +
 (a4__markDatumS_sLa x k) + 1 + 1)))), Orc.take (a2__markDatumS_sLa x n k) (a7__markDatumS_sLa x n k) 0, Orc.sub, Orc.subcall (a1__markDatumS_sLa x n k) (a8__markDatumS_sLa x k) 4,
 Orc.call [Mode.own true 4, Mode.rd] [Ob.arr true 4 (a9__markDatumS_sLa x n k)] (AV.sv (a10__markDatumS_sLa x n k)), Orc.ghost (Ghost.sel [0] [0, 1, 5]), Orc.goto (List.length
 (Datum.items x) - (k + 1)) (Lc_markDatumS_sLa x n (k + 1))] [Orc.ghost (Ghost.sel [0] [1]), Orc.out 0]] (loopK (Ic_markDatumS_sLa x n) (Yc_markDatumS_sLa x n) (List.length
 (Datum.items x) - k)) = (List.length (a5__markDatumS_sLa x n k) ≤ 9223372036854775807 → (decide ((↑k : Int) < (↑(List.length (a5__markDatumS_sLa x n k)) : Int)) = true → (0 ≤ (↑k
 : Int) ∧ Int.toNat (↑k : Int) < List.length (a5__markDatumS_sLa x n k)) ∧ (a5__markDatumS_sLa x n k)[Int.toNat (↑k : Int)]? = some (datumF (a3__markDatumS_sLa x k)) ∧ rng
 IntKind.i64 (n + (a4__markDatumS_sLa x k) + 1) ∧ (0 ≤ (↑k : Int) ∧ Int.toNat (↑k : Int) < List.length (List.set (a5__markDatumS_sLa x n k) (Int.toNat (↑k : Int))
 (a6__markDatumS_sLa x n k))) ∧ (List.set (a5__markDatumS_sLa x n k) (Int.toNat (↑k : Int)) (a6__markDatumS_sLa x n k))[Int.toNat (↑k : Int)]? = some (a6__markDatumS_sLa x n k) ∧
 List.set (List.set (a5__markDatumS_sLa x n k) (Int.toNat (↑k : Int)) (a6__markDatumS_sLa x n k)) (Int.toNat (↑k : Int)) (a2__markDatumS_sLa x n k) = List.set (a5__markDatumS_sLa x
 n k) (Int.toNat (↑k : Int)) (a2__markDatumS_sLa x n k) ∧ rng IntKind.i64 (n + (a4__markDatumS_sLa x k) + 1 + 1) ∧ P_c_markText (n + (a4__markDatumS_sLa x k) + 1 + 1) ∧ (0 ≤ (↑k :
 Int) ∧ Int.toNat (↑k : Int) < List.length (List.set (a5__markDatumS_sLa x n k) (Int.toNat (↑k : Int)) (a2__markDatumS_sLa x n k))) ∧ (List.set (a5__markDatumS_sLa x n k)
 (Int.toNat (↑k : Int)) (a2__markDatumS_sLa x n k))[Int.toNat (↑k : Int)]? = some (a2__markDatumS_sLa x n k) ∧ List.set (List.set (a5__markDatumS_sLa x n k) (Int.toNat (↑k : Int))
 (a2__markDatumS_sLa x n k)) (Int.toNat (↑k : Int)) (a1__markDatumS_sLa x n k) = List.set (a5__markDatumS_sLa x n k) (Int.toNat (↑k : Int)) (a1__markDatumS_sLa x n k) ∧ rng
 IntKind.i64 (n + (a4__markDatumS_sLa x k) + 1 + 1 + 1) ∧ (0 ≤ (↑k : Int) ∧ Int.toNat (↑k : Int) < List.length (a7__markDatumS_sLa x n k)) ∧ Int.toNat (↑k : Int) < List.length
 (a7__markDatumS_sLa x n k) ∧ (a7__markDatumS_sLa x n k)[Int.toNat (↑k : Int)]? = some (a1__markDatumS_sLa x n k) ∧ some (Cell.list (a8__markDatumS_sLa x k)) = some (Cell.list
 (a8__markDatumS_sLa x k)) ∧ (∀ (x_1 : List Cell), x_1 ∈ List.map datumC (Datum.items (a3__markDatumS_sLa x k)) → List.length x_1 = 4) ∧ CallOK Try.prog 115 [Ob.arr true 4
 (a8__markDatumS_sLa x k)] [SV.one (AC.ref 0), li (n + (a4__markDatumS_sLa x k) + 1 + 1 + 1)] [Ob.arr true 4 (a9__markDatumS_sLa x n k)] (AV.sv (a10__markDatumS_sLa x n k)) ∧ rng
 IntKind.i64 ((↑k : Int) + 1) ∧ List.length (Datum.items x) - (k + 1) < List.length (Datum.items x) - k ∧ Tc_markDatumS_sLa x n (li ((↑k : Int) + 1)) (a10__markDatumS_sLa x n k)
 (Ob.arr true 4 (List.set (a7__markDatumS_sLa x n k) (Int.toNat (↑k : Int)) [cI (n + (a4__markDatumS_sLa x k)), cI (n + (a4__markDatumS_sLa x k) + 1), cS (mText (n +
 (a4__markDatumS_sLa x k) + 1 + 1)), Cell.list (a9__markDatumS_sLa x n k)])) = Lc_markDatumS_sLa x n (k + 1) ∧ Ic_markDatumS_sLa x n (List.length (Datum.items x) - (k + 1))
 (Lc_markDatumS_sLa x n (k + 1))) ∧ (decide ((↑k : Int) < (↑(List.length (a5__markDatumS_sLa x n k)) : Int)) = false → True ∧ W0c_markDatumS_sLa x n (li (n + (a4__markDatumS_sLa x
 k))) (Ob.arr true 4 (a5__markDatumS_sLa x n k)) = W0c_markDatumS_sLa x n (li (n + (↑(sumBy cD (Datum.items x)) : Int))) (Ob.arr true 4 (List.map datumC (seqM mkD cD (Datum.items
 x) n))))) := by kernel_rfl
theorem Sc_markDatumS_sLa (x : Datum) (n : Int) (h0 : 0 ≤ n) (h : n + (↑(sumBy cD (Datum.items x)) : Int) ≤ 2147483647) (ih : ∀ (z : Datum), z ∈ Datum.items x → ∀ (n : Int), 0 ≤ n
 → n + (↑(sumBy cD (Datum.items z)) : Int) ≤ 2147483647 → P_c_markDatumS z n)  : LoopSem Try.prog (loopAt Try.f115 0) (Ic_markDatumS_sLa x n) (Yc_markDatumS_sLa x n) := by
  refine LoopSem.ofHead wide fun k h => ⟨_, _, run_c_markDatumS_sLa x n k, ?_⟩
  try delta a4__markDatumS_sLa a3__markDatumS_sLa a8__markDatumS_sLa a1__markDatumS_sLa a2__markDatumS_sLa a5__markDatumS_sLa a6__markDatumS_sLa a7__markDatumS_sLa a9__markDatumS_sLa a10__markDatumS_sLa
  have g0 := sumBy_takeLe cD x.items (k + 1)
  with_reducible repeat' (first | apply And.intro | exact flatI | exact flatS | exact rowLens | exact ih | (intro; skip) | apply obsN | apply obsC | apply obA | apply obM | apply obB | apply svA | apply tupA | apply lcA | apply lcS | apply svC | apply liC | apply lbC | apply lsC | apply vIc | apply vBc | apply vSc | apply vLc | apply mapC | apply Hc_markDatumS_sLa | apply Ec_markDatumS_sLa | apply EW0c_markDatumS_sLa | apply c_markText | apply ih)
  all_goals (try simp only [std, stdM] at *)
  all_goals (try (first | with_reducible rfl | omega | assumption | (refine (decide_eq_true ?_).symm; assumption) | (refine (decide_eq_false ?_).symm; assumption) | (refine rowGet ?_; (first | omega | (simp only [std, stdM]; omega) | grind)) | (refine getC ?_ rfl; (first | omega | (simp only [std, stdM]; omega) | grind)) | (refine fill_step ?_ ?_; (first | omega | (simp only [std, stdM]; omega) | grind); (first | rfl | exact (Row.eq _).trans rfl)) | (refine fill_init ?_; (first | rfl | exact (Row.eq _).trans rfl)) | (refine set_row ?_; (simp only [List.length_map, List.length_set, mkTo_len]; omega)) | (refine mkToRow ?_; (first | omega | (simp only [std, stdM]; omega) | grind)) | (refine mkTo_row ?_ rfl; (first | omega | (simp only [std, stdM]; omega) | grind)) | (refine mkTo_step ?_ ?_; (first | omega | (simp only [std, stdM]; omega) | grind); (first | exact mkD_C _ _ | grind [sumBy_step, getD_mem', cD_eq, mkD_C, mkTo_all, snocI, snocS, rowSnoc])) | grind [sumBy_step, getD_mem', cD_eq, mkD_C, mkTo_all, snocI, snocS, rowSnoc]))
theorem run_c_markDatumS_s (x : Datum) (n : Int) : aexec Try.prog (Option.getD (Func.body Try.f115) Code.skip) (entry [Ob.arr true 4 (List.map datumC (Datum.items x))] [SV.one
 (AC.ref 0), li n] 42) [Orc.ghost (Ghost.sel [0] [0, 1, 5]), Orc.loop (List.length (Datum.items x) - 0) (Lc_markDatumS_sLa x n 0) (Ic_markDatumS_sLa x n) [(True, AEx.exit 0,
 W0c_markDatumS_sLa x n (li (n + (↑(sumBy cD (Datum.items x)) : Int))) (Ob.arr true 4 (List.map datumC (seqM mkD cD (Datum.items x) n))), [Orc.fin []])]] (finK Try.prog
 [ResultVar.tmp 4] [Ob.arr true 4 (List.map datumC (seqM mkD cD (Datum.items x) n))] (AV.sv (li (n + (↑(sumBy cD (Datum.items x)) : Int))))) = (Tc_markDatumS_sLa x n (li 0) (li n)
 (Ob.arr true 4 (List.map datumC (Datum.items x))) = Lc_markDatumS_sLa x n 0 ∧ Ic_markDatumS_sLa x n (List.length (Datum.items x) - 0) (Lc_markDatumS_sLa x n 0) ∧ LoopSem Try.prog
 (loopAt Try.f115 0) (Ic_markDatumS_sLa x n) (Yc_markDatumS_sLa x n) ∧ (True → ObsEq [Ob.arr true 4 (List.map datumC (seqM mkD cD (Datum.items x) n))] [Ob.arr true 4 (List.map
 datumC (seqM mkD cD (Datum.items x) n))] ∧ AV.sv (li (n + (↑(sumBy cD (Datum.items x)) : Int))) = AV.sv (li (n + (↑(sumBy cD (Datum.items x)) : Int)))) ∧ True) := by kernel_rfl
theorem c_markDatumS_s (x : Datum) (n : Int) (h0 : 0 ≤ n) (h : n + sumBy cD x.items ≤ 2147483647) (ih : ∀ z ∈ x.items, ∀ (n : Int) (h0 : 0 ≤ n) (h : n + sumBy cD z.items ≤
 2147483647), P_c_markDatumS z n)  : P_c_markDatumS x n := by
  refine CallOK.ofRun wide (run_c_markDatumS_s x n) Try.call115 Try.func115 rfl rfl rfl ?_
  have gl := cD_len x.items
  with_reducible repeat' (first | apply And.intro | exact flatI | exact flatS | exact rowLens | exact ih | (intro; skip) | apply obsN | apply obsC | apply obA | apply obM | apply obB | apply svA | apply tupA | apply lcA | apply lcS | apply svC | apply liC | apply lbC | apply lsC | apply vIc | apply vBc | apply vSc | apply vLc | apply mapC | apply Hc_markDatumS_sLa | apply Ec_markDatumS_sLa | apply Sc_markDatumS_sLa | apply EW0c_markDatumS_sLa | apply c_markText)
  all_goals (try simp only [std, stdM] at *)
  all_goals (try (first | with_reducible rfl | omega | assumption | (refine (decide_eq_true ?_).symm; assumption) | (refine (decide_eq_false ?_).symm; assumption) | (refine rowGet ?_; (first | omega | (simp only [std, stdM]; omega) | grind)) | (refine getC ?_ rfl; (first | omega | (simp only [std, stdM]; omega) | grind)) | (refine fill_step ?_ ?_; (first | omega | (simp only [std, stdM]; omega) | grind); (first | rfl | exact (Row.eq _).trans rfl)) | (refine fill_init ?_; (first | rfl | exact (Row.eq _).trans rfl)) | (refine set_row ?_; (simp only [List.length_map, List.length_set, mkTo_len]; omega)) | (refine mkToRow ?_; (first | omega | (simp only [std, stdM]; omega) | grind)) | (refine mkTo_row ?_ rfl; (first | omega | (simp only [std, stdM]; omega) | grind)) | (refine mkTo_step ?_ ?_; (first | omega | (simp only [std, stdM]; omega) | grind); (first | grind [mkTo_all, snocI, snocS, rowSnoc])) | grind [mkTo_all, snocI, snocS, rowSnoc]))
theorem c_markDatumS (x : Datum) : ∀ (n : Int) (h0 : 0 ≤ n) (h : n + sumBy cD x.items ≤ 2147483647), P_c_markDatumS x n := Datum.ind (P := fun x => ∀ (n : Int) (h0 : 0 ≤ n) (h : n + sumBy cD x.items ≤ 2147483647), P_c_markDatumS x n) (fun x ih n h0 h => c_markDatumS_s x n h0 h ih) x
theorem c_markDatumSL (L : List Datum) (n : Int) (h0 : 0 ≤ n) (h : n + sumBy cD L ≤ 2147483647) : P_c_markDatumS { (default : Datum) with items := L } n := c_markDatumS { (default : Datum) with items := L } n h0 h
abbrev P_c_markCoreS (x : Core) (n : Int) : Prop := CallOK Try.prog 116 [.arr true 8 (x.kids.map coreC)] [.one (.ref 0), li n] [.arr true 8 ((seqM mkC cC x.kids n).map coreC)] (.sv (li (n + sumBy cC x.kids)))
def Tc_markCoreS_sLa (x : Core) (n : Int) (x0 : SV) (x1 : SV) (x2 : Ob) : St := St.mk (regsOf 74 [(0, AV.sv (SV.one (AC.ref 0))), (1, AV.sv x1), (5, AV.sv x0)]) [x2] 1 
def Lc_markCoreS_sLa (x : Core) (n : Int) (k : Nat) : St := Tc_markCoreS_sLa x n (li (↑k : Int)) (li (n + (↑(sumBy cC (List.take k (Core.kids x))) : Int))) (Ob.arr true 8 (List.map
 coreC (mkTo mkC cC (Core.kids x) n k))) 
def Ic_markCoreS_sLa (x : Core) (n : Int) : Nat → St → Prop := Head (Lc_markCoreS_sLa x n) (fun k => k ≤ List.length (Core.kids x) ∧ List.length (Core.kids x) ≤
 9223372036854775807) fun k => List.length (Core.kids x) - k 
def W0c_markCoreS_sLa (x : Core) (n : Int) (x0 : SV) (x1 : Ob) : St := St.mk (regsOf 74 [(1, AV.sv x0)]) [x1] 1 
def Yc_markCoreS_sLa (x : Core) (n : Int) : List (Prop × AEx × St) := [(True, AEx.exit 0, W0c_markCoreS_sLa x n (li (n + (↑(sumBy cC (Core.kids x)) : Int))) (Ob.arr true 8
 (List.map coreC (seqM mkC cC (Core.kids x) n))))]
theorem Hc_markCoreS_sLa {x : Core} {n : Int} {k : Nat} {m : Nat} (h : (fun k => k ≤ List.length (Core.kids x) ∧ List.length (Core.kids x) ≤ 9223372036854775807) k) (hm : (fun k =>
 List.length (Core.kids x) - k) k = m) : Ic_markCoreS_sLa x n m (Lc_markCoreS_sLa x n k) := hm ▸ Head.mk h
theorem Ec_markCoreS_sLa {x : Core} {n : Int} {k : Nat} {x0 : SV} {x1 : SV} {x2 : Ob} (h0 : x0 = (li (↑k : Int))) (h1 : x1 = (li (n + (↑(sumBy cC (List.take k (Core.kids x))) :
 Int)))) (h2 : x2 = (Ob.arr true 8 (List.map coreC (mkTo mkC cC (Core.kids x) n k)))) : Tc_markCoreS_sLa x n x0 x1 x2 = Lc_markCoreS_sLa x n k := by
  rw [h0, h1, h2]
  rfl
theorem EW0c_markCoreS_sLa {x : Core} {n : Int} {x0 y0 : SV} {x1 y1 : Ob} (h0 : x0 = y0) (h1 : x1 = y1) : W0c_markCoreS_sLa x n x0 x1 = W0c_markCoreS_sLa x n y0 y1 := by rw [h0,
 h1]
abbrev a1__markCoreS_sLa (x : Core) (k : Nat) := (List.getD (Core.kids x) (Int.toNat (↑k : Int)) default)
abbrev a20__markCoreS_sLa (x : Core) (n : Int) (k : Nat) := (List.map coreC (mkTo mkC cC (Core.kids x) n k))
abbrev a4__markCoreS_sLa (x : Core) (k : Nat) := (↑(sumBy cC (List.take k (Core.kids x))) : Int)
abbrev a14__markCoreS_sLa (x : Core) (k : Nat) := (Datum.items (Core.datum (a1__markCoreS_sLa x k)))
abbrev a23__markCoreS_sLa (x : Core) (k : Nat) := (List.map datumC (a14__markCoreS_sLa x k))
abbrev a19__markCoreS_sLa (x : Core) (k : Nat) := (List.map coreC (Core.kids (a1__markCoreS_sLa x k)))
abbrev a9__markCoreS_sLa (x : Core) (n : Int) (k : Nat) := [cI (n + (a4__markCoreS_sLa x k)), cI (n + (a4__markCoreS_sLa x k) + 1), Cell.list (List.map intC (Core.params
 (a1__markCoreS_sLa x k))), cI (Datum.kind (Core.datum (a1__markCoreS_sLa x k))), cI (Datum.number (Core.datum (a1__markCoreS_sLa x k))), cS (Datum.text (Core.datum
 (a1__markCoreS_sLa x k))), Cell.list (a23__markCoreS_sLa x k), Cell.list (a19__markCoreS_sLa x k)]
abbrev a2__markCoreS_sLa (x : Core) (n : Int) (k : Nat) := (List.set (a20__markCoreS_sLa x n k) (Int.toNat (↑k : Int)) (a9__markCoreS_sLa x n k))
abbrev a13__markCoreS_sLa (x : Core) (n : Int) (k : Nat) := (List.map intC (seqM mkI cOne (Core.params (a1__markCoreS_sLa x k)) (n + (a4__markCoreS_sLa x k) + 1 + 1)))
abbrev a11__markCoreS_sLa (x : Core) (k : Nat) := (↑(List.length (Core.params (a1__markCoreS_sLa x k))) : Int)
abbrev a21__markCoreS_sLa (x : Core) (n : Int) (k : Nat) := (n + (a4__markCoreS_sLa x k) + 1 + 1 + (a11__markCoreS_sLa x k))
abbrev a22__markCoreS_sLa (x : Core) (n : Int) (k : Nat) := (n + (a4__markCoreS_sLa x k) + 1 + 1 + (a11__markCoreS_sLa x k) + 1)
abbrev a17__markCoreS_sLa (x : Core) (n : Int) (k : Nat) := (n + (a4__markCoreS_sLa x k) + 1 + 1 + (a11__markCoreS_sLa x k) + 1 + 1)
abbrev a3__markCoreS_sLa (x : Core) (n : Int) (k : Nat) := [cI (n + (a4__markCoreS_sLa x k)), cI (n + (a4__markCoreS_sLa x k) + 1), Cell.list (a13__markCoreS_sLa x n k), cI
 (a21__markCoreS_sLa x n k), cI (a22__markCoreS_sLa x n k), cS (mText (a17__markCoreS_sLa x n k)), Cell.list (a23__markCoreS_sLa x k), Cell.list (a19__markCoreS_sLa x k)]
abbrev a15__markCoreS_sLa (x : Core) (n : Int) (k : Nat) := (n + (a4__markCoreS_sLa x k) + 1 + 1 + (a11__markCoreS_sLa x k) + 1 + 1 + 1)
abbrev a5__markCoreS_sLa (x : Core) (n : Int) (k : Nat) := [cI (n + (a4__markCoreS_sLa x k)), cI (n + (a4__markCoreS_sLa x k) + 1), Cell.list (a13__markCoreS_sLa x n k), cI
 (a21__markCoreS_sLa x n k), cI (a22__markCoreS_sLa x n k), cS (mText (a17__markCoreS_sLa x n k)), Cell.list (List.map datumC (seqM mkD cD (a14__markCoreS_sLa x k)
 (a15__markCoreS_sLa x n k))), Cell.list (a19__markCoreS_sLa x k)]
abbrev a6__markCoreS_sLa (x : Core) (n : Int) (k : Nat) := [cI (n + (a4__markCoreS_sLa x k)), cI (n + (a4__markCoreS_sLa x k) + 1), Cell.list (a13__markCoreS_sLa x n k), cI
 (a21__markCoreS_sLa x n k), cI (a22__markCoreS_sLa x n k), cS (Datum.text (Core.datum (a1__markCoreS_sLa x k))), Cell.list (a23__markCoreS_sLa x k), Cell.list (a19__markCoreS_sLa
 x k)]
abbrev a7__markCoreS_sLa (x : Core) (n : Int) (k : Nat) := [cI (n + (a4__markCoreS_sLa x k)), cI (n + (a4__markCoreS_sLa x k) + 1), Cell.list (a13__markCoreS_sLa x n k), cI
 (a21__markCoreS_sLa x n k), cI (Datum.number (Core.datum (a1__markCoreS_sLa x k))), cS (Datum.text (Core.datum (a1__markCoreS_sLa x k))), Cell.list (a23__markCoreS_sLa x k),
 Cell.list (a19__markCoreS_sLa x k)]
abbrev a8__markCoreS_sLa (x : Core) (n : Int) (k : Nat) := [cI (n + (a4__markCoreS_sLa x k)), cI (n + (a4__markCoreS_sLa x k) + 1), Cell.list (a13__markCoreS_sLa x n k), cI
 (Datum.kind (Core.datum (a1__markCoreS_sLa x k))), cI (Datum.number (Core.datum (a1__markCoreS_sLa x k))), cS (Datum.text (Core.datum (a1__markCoreS_sLa x k))), Cell.list
 (a23__markCoreS_sLa x k), Cell.list (a19__markCoreS_sLa x k)]
abbrev a10__markCoreS_sLa (x : Core) (n : Int) (k : Nat) := [cI (n + (a4__markCoreS_sLa x k)), cI (Core.number (a1__markCoreS_sLa x k)), Cell.list (List.map intC (Core.params
 (a1__markCoreS_sLa x k))), cI (Datum.kind (Core.datum (a1__markCoreS_sLa x k))), cI (Datum.number (Core.datum (a1__markCoreS_sLa x k))), cS (Datum.text (Core.datum
 (a1__markCoreS_sLa x k))), Cell.list (a23__markCoreS_sLa x k), Cell.list (a19__markCoreS_sLa x k)]
abbrev a12__markCoreS_sLa (x : Core) (n : Int) (k : Nat) := (n + (a4__markCoreS_sLa x k) + 1 + 1 + (a11__markCoreS_sLa x k) + 1 + 1 + 1 + (↑(sumBy cD (a14__markCoreS_sLa x k)) :
 Int))
abbrev a16__markCoreS_sLa (x : Core) (n : Int) (k : Nat) := (List.set (a2__markCoreS_sLa x n k) (Int.toNat (↑k : Int)) (a3__markCoreS_sLa x n k))
abbrev a18__markCoreS_sLa (x : Core) (n : Int) (k : Nat) := (li (n + (a4__markCoreS_sLa x k) + 1 + 1 + (a11__markCoreS_sLa x k) + 1 + 1 + 1 + (↑(sumBy cD (a14__markCoreS_sLa x k))
 : Int) + (↑(sumBy cC (Core.kids (a1__markCoreS_sLa x k))) : Int)))
theorem run_c_markCoreS_sLa (x : Core) (n : Int) (k : Nat) : aexec Try.prog (loopAt Try.f116 0) (Lc_markCoreS_sLa x n k) [Orc.br [Orc.cells (coreF (a1__markCoreS_sLa x k)),
 Orc.take (a10__markCoreS_sLa x n k) (a2__markCoreS_sLa x n k) 0, Orc.sub, Orc.subcall (a9__markCoreS_sLa x n k) (List.map intC (Core.params (a1__markCoreS_sLa x k))) 1, Orc.call
 [Mode.own true 1, Mode.rd] [Ob.arr true 1 (a13__markCoreS_sLa x n k)] (AV.sv (li (a21__markCoreS_sLa x n k))), Orc.take (a8__markCoreS_sLa x n k) (List.set (a2__markCoreS_sLa x n
 k) (Int.toNat (↑k : Int)) (a7__markCoreS_sLa x n k)) 0, Orc.take (a7__markCoreS_sLa x n k) (List.set (a2__markCoreS_sLa x n k) (Int.toNat (↑k : Int)) (a6__markCoreS_sLa x n k)) 0,
 Orc.call [Mode.rd] [] (AV.sv (ls (mText (a17__markCoreS_sLa x n k)))), Orc.take (a6__markCoreS_sLa x n k) (a16__markCoreS_sLa x n k) 0, Orc.sub, Orc.subcall (a3__markCoreS_sLa x n
 k) (a23__markCoreS_sLa x k) 4, Orc.call [Mode.own true 4, Mode.rd] [Ob.arr true 4 (List.map datumC (seqM mkD cD (a14__markCoreS_sLa x k) (a15__markCoreS_sLa x n k)))] (AV.sv (li
 (a12__markCoreS_sLa x n k))), Orc.sub, Orc.subcall (a5__markCoreS_sLa x n k) (a19__markCoreS_sLa x k) 8, Orc.call [Mode.own true 8, Mode.rd] [Ob.arr true 8 (List.map coreC (seqM
 mkC cC (Core.kids (a1__markCoreS_sLa x k)) (a12__markCoreS_sLa x n k)))] (AV.sv (a18__markCoreS_sLa x n k)), Orc.ghost (Ghost.sel [0] [0, 1, 5]), Orc.goto (List.length (Core.kids
 x) - (k + 1)) (Lc_markCoreS_sLa x n (k + 1))] [Orc.ghost (Ghost.sel [0] [1]), Orc.out 0]] (loopK (Ic_markCoreS_sLa x n) (Yc_markCoreS_sLa x n) (List.length (Core.kids x) - k)) =
 (List.length (a20__markCoreS_sLa x n k) ≤ 9223372036854775807 → (decide ((↑k : Int) < (↑(List.length (a20__markCoreS_sLa x n k)) : Int)) = true → (0 ≤ (↑k : Int) ∧ Int.toNat (↑k :
 Int) < List.length (a20__markCoreS_sLa x n k)) ∧ (a20__markCoreS_sLa x n k)[Int.toNat (↑k : Int)]? = some (coreF (a1__markCoreS_sLa x k)) ∧ rng IntKind.i64 (n + (a4__markCoreS_sLa
 x k) + 1) ∧ (0 ≤ (↑k : Int) ∧ Int.toNat (↑k : Int) < List.length (List.set (a20__markCoreS_sLa x n k) (Int.toNat (↑k : Int)) (a10__markCoreS_sLa x n k))) ∧ (List.set
 (a20__markCoreS_sLa x n k) (Int.toNat (↑k : Int)) (a10__markCoreS_sLa x n k))[Int.toNat (↑k : Int)]? = some (a10__markCoreS_sLa x n k) ∧ List.set (List.set (a20__markCoreS_sLa x n
 k) (Int.toNat (↑k : Int)) (a10__markCoreS_sLa x n k)) (Int.toNat (↑k : Int)) (a9__markCoreS_sLa x n k) = List.set (a20__markCoreS_sLa x n k) (Int.toNat (↑k : Int))
 (a9__markCoreS_sLa x n k) ∧ rng IntKind.i64 (n + (a4__markCoreS_sLa x k) + 1 + 1) ∧ (0 ≤ (↑k : Int) ∧ Int.toNat (↑k : Int) < List.length (a2__markCoreS_sLa x n k)) ∧ Int.toNat (↑k
 : Int) < List.length (a2__markCoreS_sLa x n k) ∧ (a2__markCoreS_sLa x n k)[Int.toNat (↑k : Int)]? = some (a9__markCoreS_sLa x n k) ∧ some (Cell.list (List.map intC (Core.params
 (a1__markCoreS_sLa x k)))) = some (Cell.list (List.map intC (Core.params (a1__markCoreS_sLa x k)))) ∧ (∀ (x_1 : List Cell), x_1 ∈ List.map intC (Core.params (a1__markCoreS_sLa x
 k)) → List.length x_1 = 1) ∧ P_c_markIntS (Core.params (a1__markCoreS_sLa x k)) (n + (a4__markCoreS_sLa x k) + 1 + 1) ∧ (0 ≤ (↑k : Int) ∧ Int.toNat (↑k : Int) < List.length
 (List.set (a2__markCoreS_sLa x n k) (Int.toNat (↑k : Int)) (a8__markCoreS_sLa x n k))) ∧ (List.set (a2__markCoreS_sLa x n k) (Int.toNat (↑k : Int)) (a8__markCoreS_sLa x n
 k))[Int.toNat (↑k : Int)]? = some (a8__markCoreS_sLa x n k) ∧ List.set (List.set (a2__markCoreS_sLa x n k) (Int.toNat (↑k : Int)) (a8__markCoreS_sLa x n k)) (Int.toNat (↑k : Int))
 (a7__markCoreS_sLa x n k) = List.set (a2__markCoreS_sLa x n k) (Int.toNat (↑k : Int)) (a7__markCoreS_sLa x n k) ∧ rng IntKind.i64 (a22__markCoreS_sLa x n k) ∧ (0 ≤ (↑k : Int) ∧
 Int.toNat (↑k : Int) < List.length (List.set (a2__markCoreS_sLa x n k) (Int.toNat (↑k : Int)) (a7__markCoreS_sLa x n k))) ∧ (List.set (a2__markCoreS_sLa x n k) (Int.toNat (↑k :
 Int)) (a7__markCoreS_sLa x n k))[Int.toNat (↑k : Int)]? = some (a7__markCoreS_sLa x n k) ∧ List.set (List.set (a2__markCoreS_sLa x n k) (Int.toNat (↑k : Int)) (a7__markCoreS_sLa x
 n k)) (Int.toNat (↑k : Int)) (a6__markCoreS_sLa x n k) = List.set (a2__markCoreS_sLa x n k) (Int.toNat (↑k : Int)) (a6__markCoreS_sLa x n k) ∧ rng IntKind.i64 (a17__markCoreS_sLa
 x n k) ∧ P_c_markText (a17__markCoreS_sLa x n k) ∧ (0 ≤ (↑k : Int) ∧ Int.toNat (↑k : Int) < List.length (List.set (a2__markCoreS_sLa x n k) (Int.toNat (↑k : Int))
 (a6__markCoreS_sLa x n k))) ∧ (List.set (a2__markCoreS_sLa x n k) (Int.toNat (↑k : Int)) (a6__markCoreS_sLa x n k))[Int.toNat (↑k : Int)]? = some (a6__markCoreS_sLa x n k) ∧
 List.set (List.set (a2__markCoreS_sLa x n k) (Int.toNat (↑k : Int)) (a6__markCoreS_sLa x n k)) (Int.toNat (↑k : Int)) (a3__markCoreS_sLa x n k) = List.set (a2__markCoreS_sLa x n
 k) (Int.toNat (↑k : Int)) (a3__markCoreS_sLa x n k) ∧ rng IntKind.i64 (a15__markCoreS_sLa x n k) ∧ (0 ≤ (↑k : Int) ∧ Int.toNat (↑k : Int) < List.length (a16__markCoreS_sLa x n k))
 ∧ Int.toNat (↑k : Int) < List.length (a16__markCoreS_sLa x n k) ∧ (a16__markCoreS_sLa x n k)[Int.toNat (↑k : Int)]? = some (a3__markCoreS_sLa x n k) ∧ some (Cell.list
 (a23__markCoreS_sLa x k)) = some (Cell.list (a23__markCoreS_sLa x k)) ∧ (∀ (x_1 : List Cell), x_1 ∈ List.map datumC (a14__markCoreS_sLa x k) → List.length x_1 = 4) ∧ CallOK
 Try.prog 115 [Ob.arr true 4 (a23__markCoreS_sLa x k)] [SV.one (AC.ref 0), li (a15__markCoreS_sLa x n k)] [Ob.arr true 4 (List.map datumC (seqM mkD cD (a14__markCoreS_sLa x k)
 (a15__markCoreS_sLa x n k)))] (AV.sv (li (a12__markCoreS_sLa x n k))) ∧ (0 ≤ (↑k : Int) ∧ Int.toNat (↑k : Int) < List.length (List.set (a16__markCoreS_sLa x n k) (Int.toNat (↑k :
 Int)) (a5__markCoreS_sLa x n k))) ∧ Int.toNat (↑k : Int) < List.length (List.set (a16__markCoreS_sLa x n k) (Int.toNat (↑k : Int)) (a5__markCoreS_sLa x n k)) ∧ (List.set
 (a16__markCoreS_sLa x n k) (Int.toNat (↑k : Int)) (a5__markCoreS_sLa x n k))[Int.toNat (↑k : Int)]? = some (a5__markCoreS_sLa x n k) ∧ some (Cell.list (a19__markCoreS_sLa x k)) =
 some (Cell.list (a19__markCoreS_sLa x k)) ∧ (∀ (x_1 : List Cell), x_1 ∈ List.map coreC (Core.kids (a1__markCoreS_sLa x k)) → List.length x_1 = 8) ∧ CallOK Try.prog 116 [Ob.arr
 true 8 (a19__markCoreS_sLa x k)] [SV.one (AC.ref 0), li (a12__markCoreS_sLa x n k)] [Ob.arr true 8 (List.map coreC (seqM mkC cC (Core.kids (a1__markCoreS_sLa x k))
 (a12__markCoreS_sLa x n k)))] (AV.sv (a18__markCoreS_sLa x n k)) ∧ rng IntKind.i64 ((↑k : Int) + 1) ∧ List.length (Core.kids x) - (k + 1) < List.length (Core.kids x) - k ∧
 Tc_markCoreS_sLa x n (li ((↑k : Int) + 1)) (a18__markCoreS_sLa x n k) (Ob.arr true 8 (List.set (List.set (a16__markCoreS_sLa x n k) (Int.toNat (↑k : Int)) (a5__markCoreS_sLa x n
 k)) (Int.toNat (↑k : Int)) [cI (n + (a4__markCoreS_sLa x k)), cI (n + (a4__markCoreS_sLa x k) + 1), Cell.list (a13__markCoreS_sLa x n k), cI (a21__markCoreS_sLa x n k), cI
 (a22__markCoreS_sLa x n k), cS (mText (a17__markCoreS_sLa x n k)), Cell.list (List.map datumC (seqM mkD cD (a14__markCoreS_sLa x k) (a15__markCoreS_sLa x n k))), Cell.list
 (List.map coreC (seqM mkC cC (Core.kids (a1__markCoreS_sLa x k)) (a12__markCoreS_sLa x n k)))])) = Lc_markCoreS_sLa x n (k + 1) ∧ Ic_markCoreS_sLa x n (List.length (Core.kids x) -
 (k + 1)) (Lc_markCoreS_sLa x n (k + 1))) ∧ (decide ((↑k : Int) < (↑(List.length (a20__markCoreS_sLa x n k)) : Int)) = false → True ∧ W0c_markCoreS_sLa x n (li (n +
 (a4__markCoreS_sLa x k))) (Ob.arr true 8 (a20__markCoreS_sLa x n k)) = W0c_markCoreS_sLa x n (li (n + (↑(sumBy cC (Core.kids x)) : Int))) (Ob.arr true 8 (List.map coreC (seqM mkC
 cC (Core.kids x) n))))) := by kernel_rfl
theorem Sc_markCoreS_sLa (x : Core) (n : Int) (h0 : 0 ≤ n) (h : n + (↑(sumBy cC (Core.kids x)) : Int) ≤ 2147483647) (ih : ∀ (z : Core), z ∈ Core.kids x → ∀ (n : Int), 0 ≤ n → n +
 (↑(sumBy cC (Core.kids z)) : Int) ≤ 2147483647 → P_c_markCoreS z n)  : LoopSem Try.prog (loopAt Try.f116 0) (Ic_markCoreS_sLa x n) (Yc_markCoreS_sLa x n) := by
  refine LoopSem.ofHead wide fun k h => ⟨_, _, run_c_markCoreS_sLa x n k, ?_⟩
  try delta a1__markCoreS_sLa a20__markCoreS_sLa a4__markCoreS_sLa a14__markCoreS_sLa a23__markCoreS_sLa a19__markCoreS_sLa a9__markCoreS_sLa a2__markCoreS_sLa a13__markCoreS_sLa a11__markCoreS_sLa a21__markCoreS_sLa a22__markCoreS_sLa a17__markCoreS_sLa a3__markCoreS_sLa a15__markCoreS_sLa a5__markCoreS_sLa a6__markCoreS_sLa a7__markCoreS_sLa a8__markCoreS_sLa a10__markCoreS_sLa a12__markCoreS_sLa a16__markCoreS_sLa a18__markCoreS_sLa
  have g0 := sumBy_takeLe cC x.kids (k + 1)
  with_reducible repeat' (first | apply And.intro | exact flatI | exact flatS | exact rowLens | exact ih | (intro; skip) | apply obsN | apply obsC | apply obA | apply obM | apply obB | apply svA | apply tupA | apply lcA | apply lcS | apply svC | apply liC | apply lbC | apply lsC | apply vIc | apply vBc | apply vSc | apply vLc | apply mapC | apply Hc_markCoreS_sLa | apply Ec_markCoreS_sLa | apply EW0c_markCoreS_sLa | apply c_markIntS | apply c_markText | apply c_markDatumS | apply c_markDatumSL | apply ih)
  all_goals (try simp only [std, stdM] at *)
  all_goals (try (first | with_reducible rfl | omega | assumption | (refine (decide_eq_true ?_).symm; assumption) | (refine (decide_eq_false ?_).symm; assumption) | (refine rowGet ?_; (first | omega | (simp only [std, stdM]; omega) | grind)) | (refine getC ?_ rfl; (first | omega | (simp only [std, stdM]; omega) | grind)) | (refine fill_step ?_ ?_; (first | omega | (simp only [std, stdM]; omega) | grind); (first | rfl | exact (Row.eq _).trans rfl)) | (refine fill_init ?_; (first | rfl | exact (Row.eq _).trans rfl)) | (refine set_row ?_; (simp only [List.length_map, List.length_set, mkTo_len]; omega)) | (refine mkToRow ?_; (first | omega | (simp only [std, stdM]; omega) | grind)) | (refine mkTo_row ?_ rfl; (first | omega | (simp only [std, stdM]; omega) | grind)) | (refine mkTo_step ?_ ?_; (first | omega | (simp only [std, stdM]; omega) | grind); (first | exact mkC_C _ _ | grind [sumBy_step, getD_mem', cC_eq, mkC_C, mkTo_all, snocI, snocS, rowSnoc])) | grind [sumBy_step, getD_mem', cC_eq, mkC_C, mkTo_all, snocI, snocS, rowSnoc]))
theorem run_c_markCoreS_s (x : Core) (n : Int) : aexec Try.prog (Option.getD (Func.body Try.f116) Code.skip) (entry [Ob.arr true 8 (List.map coreC (Core.kids x))] [SV.one (AC.ref
 0), li n] 74) [Orc.ghost (Ghost.sel [0] [0, 1, 5]), Orc.loop (List.length (Core.kids x) - 0) (Lc_markCoreS_sLa x n 0) (Ic_markCoreS_sLa x n) [(True, AEx.exit 0, W0c_markCoreS_sLa
 x n (li (n + (↑(sumBy cC (Core.kids x)) : Int))) (Ob.arr true 8 (List.map coreC (seqM mkC cC (Core.kids x) n))), [Orc.fin []])]] (finK Try.prog [ResultVar.tmp 4] [Ob.arr true 8
 (List.map coreC (seqM mkC cC (Core.kids x) n))] (AV.sv (li (n + (↑(sumBy cC (Core.kids x)) : Int))))) = (Tc_markCoreS_sLa x n (li 0) (li n) (Ob.arr true 8 (List.map coreC
 (Core.kids x))) = Lc_markCoreS_sLa x n 0 ∧ Ic_markCoreS_sLa x n (List.length (Core.kids x) - 0) (Lc_markCoreS_sLa x n 0) ∧ LoopSem Try.prog (loopAt Try.f116 0) (Ic_markCoreS_sLa x
 n) (Yc_markCoreS_sLa x n) ∧ (True → ObsEq [Ob.arr true 8 (List.map coreC (seqM mkC cC (Core.kids x) n))] [Ob.arr true 8 (List.map coreC (seqM mkC cC (Core.kids x) n))] ∧ AV.sv (li
 (n + (↑(sumBy cC (Core.kids x)) : Int))) = AV.sv (li (n + (↑(sumBy cC (Core.kids x)) : Int)))) ∧ True) := by kernel_rfl
theorem c_markCoreS_s (x : Core) (n : Int) (h0 : 0 ≤ n) (h : n + sumBy cC x.kids ≤ 2147483647) (ih : ∀ z ∈ x.kids, ∀ (n : Int) (h0 : 0 ≤ n) (h : n + sumBy cC z.kids ≤ 2147483647),
 P_c_markCoreS z n)  : P_c_markCoreS x n := by
  refine CallOK.ofRun wide (run_c_markCoreS_s x n) Try.call116 Try.func116 rfl rfl rfl ?_
  have gl := cC_len x.kids
  with_reducible repeat' (first | apply And.intro | exact flatI | exact flatS | exact rowLens | exact ih | (intro; skip) | apply obsN | apply obsC | apply obA | apply obM | apply obB | apply svA | apply tupA | apply lcA | apply lcS | apply svC | apply liC | apply lbC | apply lsC | apply vIc | apply vBc | apply vSc | apply vLc | apply mapC | apply Hc_markCoreS_sLa | apply Ec_markCoreS_sLa | apply Sc_markCoreS_sLa | apply EW0c_markCoreS_sLa | apply c_markIntS | apply c_markText | apply c_markDatumS | apply c_markDatumSL)
  all_goals (try simp only [std, stdM] at *)
  all_goals (try (first | with_reducible rfl | omega | assumption | (refine (decide_eq_true ?_).symm; assumption) | (refine (decide_eq_false ?_).symm; assumption) | (refine rowGet ?_; (first | omega | (simp only [std, stdM]; omega) | grind)) | (refine getC ?_ rfl; (first | omega | (simp only [std, stdM]; omega) | grind)) | (refine fill_step ?_ ?_; (first | omega | (simp only [std, stdM]; omega) | grind); (first | rfl | exact (Row.eq _).trans rfl)) | (refine fill_init ?_; (first | rfl | exact (Row.eq _).trans rfl)) | (refine set_row ?_; (simp only [List.length_map, List.length_set, mkTo_len]; omega)) | (refine mkToRow ?_; (first | omega | (simp only [std, stdM]; omega) | grind)) | (refine mkTo_row ?_ rfl; (first | omega | (simp only [std, stdM]; omega) | grind)) | (refine mkTo_step ?_ ?_; (first | omega | (simp only [std, stdM]; omega) | grind); (first | grind [mkTo_all, snocI, snocS, rowSnoc])) | grind [mkTo_all, snocI, snocS, rowSnoc]))
theorem c_markCoreS (x : Core) : ∀ (n : Int) (h0 : 0 ≤ n) (h : n + sumBy cC x.kids ≤ 2147483647), P_c_markCoreS x n := Core.ind (P := fun x => ∀ (n : Int) (h0 : 0 ≤ n) (h : n + sumBy cC x.kids ≤ 2147483647), P_c_markCoreS x n) (fun x ih n h0 h => c_markCoreS_s x n h0 h ih) x
theorem c_markCoreSL (L : List Core) (n : Int) (h0 : 0 ≤ n) (h : n + sumBy cC L ≤ 2147483647) : P_c_markCoreS { (default : Core) with kids := L } n := c_markCoreS { (default : Core) with kids := L } n h0 h
abbrev P_c_markUnitS (L : List Unit) (n : Int) : Prop := CallOK Try.prog 30 [.arr true 10 (L.map unitC)] [.one (.ref 0), li n] [.arr true 10 ((seqM mkU cU L n).map unitC)] (.sv (li (n + sumBy cU L)))
def Tc_markUnitSLa (L : List Unit) (n : Int) (x0 : SV) (x1 : SV) (x2 : Ob) : St := St.mk (regsOf 97 [(0, AV.sv (SV.one (AC.ref 0))), (1, AV.sv x1), (5, AV.sv x0)]) [x2] 1 
def Lc_markUnitSLa (L : List Unit) (n : Int) (k : Nat) : St := Tc_markUnitSLa L n (li (↑k : Int)) (li (n + (↑(sumBy cU (List.take k L)) : Int))) (Ob.arr true 10 (List.map unitC
 (mkTo mkU cU L n k))) 
def Ic_markUnitSLa (L : List Unit) (n : Int) : Nat → St → Prop := Head (Lc_markUnitSLa L n) (fun k => k ≤ List.length L ∧ List.length L ≤ 9223372036854775807) fun k => List.length
 L - k 
def W0c_markUnitSLa (L : List Unit) (n : Int) (x0 : SV) (x1 : Ob) : St := St.mk (regsOf 97 [(1, AV.sv x0)]) [x1] 1 
def Yc_markUnitSLa (L : List Unit) (n : Int) : List (Prop × AEx × St) := [(True, AEx.exit 0, W0c_markUnitSLa L n (li (n + (↑(sumBy cU L) : Int))) (Ob.arr true 10 (List.map unitC
 (seqM mkU cU L n))))]
theorem Hc_markUnitSLa {L : List Unit} {n : Int} {k : Nat} {m : Nat} (h : (fun k => k ≤ List.length L ∧ List.length L ≤ 9223372036854775807) k) (hm : (fun k => List.length L - k) k
 = m) : Ic_markUnitSLa L n m (Lc_markUnitSLa L n k) := hm ▸ Head.mk h
theorem Ec_markUnitSLa {L : List Unit} {n : Int} {k : Nat} {x0 : SV} {x1 : SV} {x2 : Ob} (h0 : x0 = (li (↑k : Int))) (h1 : x1 = (li (n + (↑(sumBy cU (List.take k L)) : Int)))) (h2
 : x2 = (Ob.arr true 10 (List.map unitC (mkTo mkU cU L n k)))) : Tc_markUnitSLa L n x0 x1 x2 = Lc_markUnitSLa L n k := by
  rw [h0, h1, h2]
  rfl
theorem EW0c_markUnitSLa {L : List Unit} {n : Int} {x0 y0 : SV} {x1 y1 : Ob} (h0 : x0 = y0) (h1 : x1 = y1) : W0c_markUnitSLa L n x0 x1 = W0c_markUnitSLa L n y0 y1 := by rw [h0, h1]
abbrev a21__markUnitSLa (L : List Unit) (n : Int) (k : Nat) := (mText (n + (↑(sumBy cU (List.take k L)) : Int)))
abbrev a2__markUnitSLa (L : List Unit) (k : Nat) := (List.getD L (Int.toNat (↑k : Int)) default)
abbrev a30__markUnitSLa (L : List Unit) (n : Int) (k : Nat) := (cS (a21__markUnitSLa L n k) :: Cell.list (List.map intC (Unit.globals (a2__markUnitSLa L k))) :: coreF (Unit.body
 (a2__markUnitSLa L k)))
abbrev a10__markUnitSLa (L : List Unit) (n : Int) (k : Nat) := (List.set (List.map unitC (mkTo mkU cU L n k)) (Int.toNat (↑k : Int)) (a30__markUnitSLa L n k))
abbrev a13__markUnitSLa (L : List Unit) (n : Int) (k : Nat) := (List.map intC (seqM mkI cOne (Unit.globals (a2__markUnitSLa L k)) (n + (↑(sumBy cU (List.take k L)) : Int) + 1)))
abbrev a11__markUnitSLa (L : List Unit) (k : Nat) := (↑(List.length (Unit.globals (a2__markUnitSLa L k))) : Int)
abbrev a23__markUnitSLa (L : List Unit) (n : Int) (k : Nat) := (n + (↑(sumBy cU (List.take k L)) : Int) + 1 + (a11__markUnitSLa L k))
abbrev a22__markUnitSLa (L : List Unit) (n : Int) (k : Nat) := (n + (↑(sumBy cU (List.take k L)) : Int) + 1 + (a11__markUnitSLa L k) + 1)
abbrev a29__markUnitSLa (L : List Unit) (k : Nat) := (Core.params (Unit.body (a2__markUnitSLa L k)))
abbrev a16__markUnitSLa (L : List Unit) (k : Nat) := (Core.datum (Unit.body (a2__markUnitSLa L k)))
abbrev a28__markUnitSLa (L : List Unit) (k : Nat) := (List.map datumC (Datum.items (a16__markUnitSLa L k)))
abbrev a25__markUnitSLa (L : List Unit) (k : Nat) := (List.map coreC (Core.kids (Unit.body (a2__markUnitSLa L k))))
abbrev a9__markUnitSLa (L : List Unit) (n : Int) (k : Nat) := [cS (a21__markUnitSLa L n k), Cell.list (a13__markUnitSLa L n k), cI (a23__markUnitSLa L n k), cI (a22__markUnitSLa L
 n k), Cell.list (List.map intC (a29__markUnitSLa L k)), cI (Datum.kind (a16__markUnitSLa L k)), cI (Datum.number (a16__markUnitSLa L k)), cS (Datum.text (a16__markUnitSLa L k)),
 Cell.list (a28__markUnitSLa L k), Cell.list (a25__markUnitSLa L k)]
abbrev a1__markUnitSLa (L : List Unit) (n : Int) (k : Nat) := (List.set (a10__markUnitSLa L n k) (Int.toNat (↑k : Int)) (a9__markUnitSLa L n k))
abbrev a15__markUnitSLa (L : List Unit) (n : Int) (k : Nat) := (List.map intC (seqM mkI cOne (a29__markUnitSLa L k) (n + (↑(sumBy cU (List.take k L)) : Int) + 1 + (a11__markUnitSLa
 L k) + 1 + 1)))
abbrev a12__markUnitSLa (L : List Unit) (k : Nat) := (↑(List.length (a29__markUnitSLa L k)) : Int)
abbrev a19__markUnitSLa (L : List Unit) (n : Int) (k : Nat) := (n + (↑(sumBy cU (List.take k L)) : Int) + 1 + (a11__markUnitSLa L k) + 1 + 1 + (a12__markUnitSLa L k))
abbrev a24__markUnitSLa (L : List Unit) (n : Int) (k : Nat) := (n + (↑(sumBy cU (List.take k L)) : Int) + 1 + (a11__markUnitSLa L k) + 1 + 1 + (a12__markUnitSLa L k) + 1)
abbrev a18__markUnitSLa (L : List Unit) (n : Int) (k : Nat) := (n + (↑(sumBy cU (List.take k L)) : Int) + 1 + (a11__markUnitSLa L k) + 1 + 1 + (a12__markUnitSLa L k) + 1 + 1)
abbrev a3__markUnitSLa (L : List Unit) (n : Int) (k : Nat) := [cS (a21__markUnitSLa L n k), Cell.list (a13__markUnitSLa L n k), cI (a23__markUnitSLa L n k), cI (a22__markUnitSLa L
 n k), Cell.list (a15__markUnitSLa L n k), cI (a19__markUnitSLa L n k), cI (a24__markUnitSLa L n k), cS (mText (a18__markUnitSLa L n k)), Cell.list (a28__markUnitSLa L k),
 Cell.list (a25__markUnitSLa L k)]
abbrev a4__markUnitSLa (L : List Unit) (n : Int) (k : Nat) := [cS (a21__markUnitSLa L n k), Cell.list (a13__markUnitSLa L n k), cI (a23__markUnitSLa L n k), cI (a22__markUnitSLa L
 n k), Cell.list (a15__markUnitSLa L n k), cI (a19__markUnitSLa L n k), cI (a24__markUnitSLa L n k), cS (Datum.text (a16__markUnitSLa L k)), Cell.list (a28__markUnitSLa L k),
 Cell.list (a25__markUnitSLa L k)]
abbrev a17__markUnitSLa (L : List Unit) (n : Int) (k : Nat) := (n + (↑(sumBy cU (List.take k L)) : Int) + 1 + (a11__markUnitSLa L k) + 1 + 1 + (a12__markUnitSLa L k) + 1 + 1 + 1)
abbrev a31__markUnitSLa (L : List Unit) (n : Int) (k : Nat) := (List.map datumC (seqM mkD cD (Datum.items (a16__markUnitSLa L k)) (a17__markUnitSLa L n k)))
abbrev a5__markUnitSLa (L : List Unit) (n : Int) (k : Nat) := [cS (a21__markUnitSLa L n k), Cell.list (a13__markUnitSLa L n k), cI (a23__markUnitSLa L n k), cI (a22__markUnitSLa L
 n k), Cell.list (a15__markUnitSLa L n k), cI (a19__markUnitSLa L n k), cI (a24__markUnitSLa L n k), cS (mText (a18__markUnitSLa L n k)), Cell.list (a31__markUnitSLa L n k),
 Cell.list (a25__markUnitSLa L k)]
abbrev a6__markUnitSLa (L : List Unit) (n : Int) (k : Nat) := [cS (a21__markUnitSLa L n k), Cell.list (a13__markUnitSLa L n k), cI (a23__markUnitSLa L n k), cI (a22__markUnitSLa L
 n k), Cell.list (a15__markUnitSLa L n k), cI (a19__markUnitSLa L n k), cI (Datum.number (a16__markUnitSLa L k)), cS (Datum.text (a16__markUnitSLa L k)), Cell.list
 (a28__markUnitSLa L k), Cell.list (a25__markUnitSLa L k)]
abbrev a7__markUnitSLa (L : List Unit) (n : Int) (k : Nat) := [cS (a21__markUnitSLa L n k), Cell.list (a13__markUnitSLa L n k), cI (a23__markUnitSLa L n k), cI (Core.number
 (Unit.body (a2__markUnitSLa L k))), Cell.list (List.map intC (a29__markUnitSLa L k)), cI (Datum.kind (a16__markUnitSLa L k)), cI (Datum.number (a16__markUnitSLa L k)), cS
 (Datum.text (a16__markUnitSLa L k)), Cell.list (a28__markUnitSLa L k), Cell.list (a25__markUnitSLa L k)]
abbrev a8__markUnitSLa (L : List Unit) (n : Int) (k : Nat) := [cS (a21__markUnitSLa L n k), Cell.list (a13__markUnitSLa L n k), cI (a23__markUnitSLa L n k), cI (a22__markUnitSLa L
 n k), Cell.list (a15__markUnitSLa L n k), cI (Datum.kind (a16__markUnitSLa L k)), cI (Datum.number (a16__markUnitSLa L k)), cS (Datum.text (a16__markUnitSLa L k)), Cell.list
 (a28__markUnitSLa L k), Cell.list (a25__markUnitSLa L k)]
abbrev a14__markUnitSLa (L : List Unit) (n : Int) (k : Nat) := (n + (↑(sumBy cU (List.take k L)) : Int) + 1 + (a11__markUnitSLa L k) + 1 + 1 + (a12__markUnitSLa L k) + 1 + 1 + 1 +
 (↑(sumBy cD (Datum.items (a16__markUnitSLa L k))) : Int))
abbrev a20__markUnitSLa (L : List Unit) (n : Int) (k : Nat) := (li (n + (↑(sumBy cU (List.take k L)) : Int) + 1 + (a11__markUnitSLa L k) + 1 + 1 + (a12__markUnitSLa L k) + 1 + 1 +
 1 + (↑(sumBy cD (Datum.items (a16__markUnitSLa L k))) : Int) + (↑(sumBy cC (Core.kids (Unit.body (a2__markUnitSLa L k)))) : Int)))
abbrev a26__markUnitSLa (L : List Unit) (n : Int) (k : Nat) := (List.set (a1__markUnitSLa L n k) (Int.toNat (↑k : Int)) (a3__markUnitSLa L n k))
abbrev a27__markUnitSLa (L : List Unit) (n : Int) (k : Nat) := (cS (a21__markUnitSLa L n k) :: Cell.list (a13__markUnitSLa L n k) :: coreF (Unit.body (a2__markUnitSLa L k)))
theorem run_c_markUnitSLa (L : List Unit) (n : Int) (k : Nat) : aexec Try.prog (loopAt Try.f30 0) (Lc_markUnitSLa L n k) [Orc.br [Orc.call [Mode.rd] [] (AV.sv (ls (a21__markUnitSLa
 L n k))), Orc.cells (unitF (a2__markUnitSLa L k)), Orc.sub, Orc.subcall (a30__markUnitSLa L n k) (List.map intC (Unit.globals (a2__markUnitSLa L k))) 1, Orc.call [Mode.own true 1,
 Mode.rd] [Ob.arr true 1 (a13__markUnitSLa L n k)] (AV.sv (li (a23__markUnitSLa L n k))), Orc.take (a27__markUnitSLa L n k) (List.set (a10__markUnitSLa L n k) (Int.toNat (↑k :
 Int)) (a7__markUnitSLa L n k)) 0, Orc.take (a7__markUnitSLa L n k) (a1__markUnitSLa L n k) 0, Orc.sub, Orc.subcall (a9__markUnitSLa L n k) (List.map intC (a29__markUnitSLa L k))
 1, Orc.call [Mode.own true 1, Mode.rd] [Ob.arr true 1 (a15__markUnitSLa L n k)] (AV.sv (li (a19__markUnitSLa L n k))), Orc.take (a8__markUnitSLa L n k) (List.set (a1__markUnitSLa
 L n k) (Int.toNat (↑k : Int)) (a6__markUnitSLa L n k)) 0, Orc.take (a6__markUnitSLa L n k) (List.set (a1__markUnitSLa L n k) (Int.toNat (↑k : Int)) (a4__markUnitSLa L n k)) 0,
 Orc.call [Mode.rd] [] (AV.sv (ls (mText (a18__markUnitSLa L n k)))), Orc.take (a4__markUnitSLa L n k) (a26__markUnitSLa L n k) 0, Orc.sub, Orc.subcall (a3__markUnitSLa L n k)
 (a28__markUnitSLa L k) 4, Orc.call [Mode.own true 4, Mode.rd] [Ob.arr true 4 (a31__markUnitSLa L n k)] (AV.sv (li (a14__markUnitSLa L n k))), Orc.sub, Orc.subcall (a5__markUnitSLa
 L n k) (a25__markUnitSLa L k) 8, Orc.call [Mode.own true 8, Mode.rd] [Ob.arr true 8 (List.map coreC (seqM mkC cC (Core.kids (Unit.body (a2__markUnitSLa L k))) (a14__markUnitSLa L
 n k)))] (AV.sv (a20__markUnitSLa L n k)), Orc.ghost (Ghost.sel [0] [0, 1, 5]), Orc.goto (List.length L - (k + 1)) (Lc_markUnitSLa L n (k + 1))] [Orc.ghost (Ghost.sel [0] [1]),
 Orc.out 0]] (loopK (Ic_markUnitSLa L n) (Yc_markUnitSLa L n) (List.length L - k)) = (List.length (List.map unitC (mkTo mkU cU L n k)) ≤ 9223372036854775807 → (decide ((↑k : Int) <
 (↑(List.length (List.map unitC (mkTo mkU cU L n k))) : Int)) = true → P_c_markText (n + (↑(sumBy cU (List.take k L)) : Int)) ∧ (0 ≤ (↑k : Int) ∧ Int.toNat (↑k : Int) < List.length
 (List.map unitC (mkTo mkU cU L n k))) ∧ (List.map unitC (mkTo mkU cU L n k))[Int.toNat (↑k : Int)]? = some (unitF (a2__markUnitSLa L k)) ∧ rng IntKind.i64 (n + (↑(sumBy cU
 (List.take k L)) : Int) + 1) ∧ (0 ≤ (↑k : Int) ∧ Int.toNat (↑k : Int) < List.length (a10__markUnitSLa L n k)) ∧ Int.toNat (↑k : Int) < List.length (a10__markUnitSLa L n k) ∧
 (a10__markUnitSLa L n k)[Int.toNat (↑k : Int)]? = some (a30__markUnitSLa L n k) ∧ some (Cell.list (List.map intC (Unit.globals (a2__markUnitSLa L k)))) = some (Cell.list (List.map
 intC (Unit.globals (a2__markUnitSLa L k)))) ∧ (∀ (x : List Cell), x ∈ List.map intC (Unit.globals (a2__markUnitSLa L k)) → List.length x = 1) ∧ P_c_markIntS (Unit.globals
 (a2__markUnitSLa L k)) (n + (↑(sumBy cU (List.take k L)) : Int) + 1) ∧ (0 ≤ (↑k : Int) ∧ Int.toNat (↑k : Int) < List.length (List.set (a10__markUnitSLa L n k) (Int.toNat (↑k :
 Int)) (a27__markUnitSLa L n k))) ∧ (List.set (a10__markUnitSLa L n k) (Int.toNat (↑k : Int)) (a27__markUnitSLa L n k))[Int.toNat (↑k : Int)]? = some (a27__markUnitSLa L n k) ∧
 List.set (List.set (a10__markUnitSLa L n k) (Int.toNat (↑k : Int)) (a27__markUnitSLa L n k)) (Int.toNat (↑k : Int)) (a7__markUnitSLa L n k) = List.set (a10__markUnitSLa L n k)
 (Int.toNat (↑k : Int)) (a7__markUnitSLa L n k) ∧ rng IntKind.i64 (a22__markUnitSLa L n k) ∧ (0 ≤ (↑k : Int) ∧ Int.toNat (↑k : Int) < List.length (List.set (a10__markUnitSLa L n k)
 (Int.toNat (↑k : Int)) (a7__markUnitSLa L n k))) ∧ (List.set (a10__markUnitSLa L n k) (Int.toNat (↑k : Int)) (a7__markUnitSLa L n k))[Int.toNat (↑k : Int)]? = some
 (a7__markUnitSLa L n k) ∧ List.set (List.set (a10__markUnitSLa L n k) (Int.toNat (↑k : Int)) (a7__markUnitSLa L n k)) (Int.toNat (↑k : Int)) (a9__markUnitSLa L n k) = List.set
 (a10__markUnitSLa L n k) (Int.toNat (↑k : Int)) (a9__markUnitSLa L n k) ∧ rng IntKind.i64 (n + (↑(sumBy cU (List.take k L)) : Int) + 1 + (a11__markUnitSLa L k) + 1 + 1) ∧ (0 ≤ (↑k
 : Int) ∧ Int.toNat (↑k : Int) < List.length (a1__markUnitSLa L n k)) ∧ Int.toNat (↑k : Int) < List.length (a1__markUnitSLa L n k) ∧ (a1__markUnitSLa L n k)[Int.toNat (↑k : Int)]?
 = some (a9__markUnitSLa L n k) ∧ some (Cell.list (List.map intC (a29__markUnitSLa L k))) = some (Cell.list (List.map intC (a29__markUnitSLa L k))) ∧ (∀ (x : List Cell), x ∈
 List.map intC (a29__markUnitSLa L k) → List.length x = 1) ∧ P_c_markIntS (a29__markUnitSLa L k) (n + (↑(sumBy cU (List.take k L)) : Int) + 1 + (a11__markUnitSLa L k) + 1 + 1) ∧ (0
 ≤ (↑k : Int) ∧ Int.toNat (↑k : Int) < List.length (List.set (a1__markUnitSLa L n k) (Int.toNat (↑k : Int)) (a8__markUnitSLa L n k))) ∧ (List.set (a1__markUnitSLa L n k) (Int.toNat
 (↑k : Int)) (a8__markUnitSLa L n k))[Int.toNat (↑k : Int)]? = some (a8__markUnitSLa L n k) ∧ List.set (List.set (a1__markUnitSLa L n k) (Int.toNat (↑k : Int)) (a8__markUnitSLa L n
 k)) (Int.toNat (↑k : Int)) (a6__markUnitSLa L n k) = List.set (a1__markUnitSLa L n k) (Int.toNat (↑k : Int)) (a6__markUnitSLa L n k) ∧ rng IntKind.i64 (a24__markUnitSLa L n k) ∧
 (0 ≤ (↑k : Int) ∧ Int.toNat (↑k : Int) < List.length (List.set (a1__markUnitSLa L n k) (Int.toNat (↑k : Int)) (a6__markUnitSLa L n k))) ∧ (List.set (a1__markUnitSLa L n k)
 (Int.toNat (↑k : Int)) (a6__markUnitSLa L n k))[Int.toNat (↑k : Int)]? = some (a6__markUnitSLa L n k) ∧ List.set (List.set (a1__markUnitSLa L n k) (Int.toNat (↑k : Int))
 (a6__markUnitSLa L n k)) (Int.toNat (↑k : Int)) (a4__markUnitSLa L n k) = List.set (a1__markUnitSLa L n k) (Int.toNat (↑k : Int)) (a4__markUnitSLa L n k) ∧ rng IntKind.i64
 (a18__markUnitSLa L n k) ∧ P_c_markText (a18__markUnitSLa L n k) ∧ (0 ≤ (↑k : Int) ∧ Int.toNat (↑k : Int) < List.length (List.set (a1__markUnitSLa L n k) (Int.toNat (↑k : Int))
 (a4__markUnitSLa L n k))) ∧ (List.set (a1__markUnitSLa L n k) (Int.toNat (↑k : Int)) (a4__markUnitSLa L n k))[Int.toNat (↑k : Int)]? = some (a4__markUnitSLa L n k) ∧ List.set
 (List.set (a1__markUnitSLa L n k) (Int.toNat (↑k : Int)) (a4__markUnitSLa L n k)) (Int.toNat (↑k : Int)) (a3__markUnitSLa L n k) = List.set (a1__markUnitSLa L n k) (Int.toNat (↑k
 : Int)) (a3__markUnitSLa L n k) ∧ rng IntKind.i64 (a17__markUnitSLa L n k) ∧ (0 ≤ (↑k : Int) ∧ Int.toNat (↑k : Int) < List.length (a26__markUnitSLa L n k)) ∧ Int.toNat (↑k : Int)
 < List.length (a26__markUnitSLa L n k) ∧ (a26__markUnitSLa L n k)[Int.toNat (↑k : Int)]? = some (a3__markUnitSLa L n k) ∧ some (Cell.list (a28__markUnitSLa L k)) = some (Cell.list
 (a28__markUnitSLa L k)) ∧ (∀ (x : List Cell), x ∈ List.map datumC (Datum.items (a16__markUnitSLa L k)) → List.length x = 4) ∧ CallOK Try.prog 115 [Ob.arr true 4 (a28__markUnitSLa
 L k)] [SV.one (AC.ref 0), li (a17__markUnitSLa L n k)] [Ob.arr true 4 (a31__markUnitSLa L n k)] (AV.sv (li (a14__markUnitSLa L n k))) ∧ (0 ≤ (↑k : Int) ∧ Int.toNat (↑k : Int) <
 List.length (List.set (a26__markUnitSLa L n k) (Int.toNat (↑k : Int)) (a5__markUnitSLa L n k))) ∧ Int.toNat (↑k : Int) < List.length (List.set (a26__markUnitSLa L n k) (Int.toNat
 (↑k : Int)) (a5__markUnitSLa L n k)) ∧ (List.set (a26__markUnitSLa L n k) (Int.toNat (↑k : Int)) (a5__markUnitSLa L n k))[Int.toNat (↑k : Int)]? = some (a5__markUnitSLa L n k) ∧
 some (Cell.list (a25__markUnitSLa L k)) = some (Cell.list (a25__markUnitSLa L k)) ∧ (∀ (x : List Cell), x ∈ List.map coreC (Core.kids (Unit.body (a2__markUnitSLa L k))) →
 List.length x = 8) ∧ CallOK Try.prog 116 [Ob.arr true 8 (a25__markUnitSLa L k)] [SV.one (AC.ref 0), li (a14__markUnitSLa L n k)] [Ob.arr true 8 (List.map coreC (seqM mkC cC
 (Core.kids (Unit.body (a2__markUnitSLa L k))) (a14__markUnitSLa L n k)))] (AV.sv (a20__markUnitSLa L n k)) ∧ rng IntKind.i64 ((↑k : Int) + 1) ∧ List.length L - (k + 1) <
 List.length L - k ∧ Tc_markUnitSLa L n (li ((↑k : Int) + 1)) (a20__markUnitSLa L n k) (Ob.arr true 10 (List.set (List.set (a26__markUnitSLa L n k) (Int.toNat (↑k : Int))
 (a5__markUnitSLa L n k)) (Int.toNat (↑k : Int)) [cS (a21__markUnitSLa L n k), Cell.list (a13__markUnitSLa L n k), cI (a23__markUnitSLa L n k), cI (a22__markUnitSLa L n k),
 Cell.list (a15__markUnitSLa L n k), cI (a19__markUnitSLa L n k), cI (a24__markUnitSLa L n k), cS (mText (a18__markUnitSLa L n k)), Cell.list (a31__markUnitSLa L n k), Cell.list
 (List.map coreC (seqM mkC cC (Core.kids (Unit.body (a2__markUnitSLa L k))) (a14__markUnitSLa L n k)))])) = Lc_markUnitSLa L n (k + 1) ∧ Ic_markUnitSLa L n (List.length L - (k +
 1)) (Lc_markUnitSLa L n (k + 1))) ∧ (decide ((↑k : Int) < (↑(List.length (List.map unitC (mkTo mkU cU L n k))) : Int)) = false → True ∧ W0c_markUnitSLa L n (li (n + (↑(sumBy cU
 (List.take k L)) : Int))) (Ob.arr true 10 (List.map unitC (mkTo mkU cU L n k))) = W0c_markUnitSLa L n (li (n + (↑(sumBy cU L) : Int))) (Ob.arr true 10 (List.map unitC (seqM mkU cU
 L n))))) := by kernel_rfl
theorem Sc_markUnitSLa (L : List Unit) (n : Int) (h0 : 0 ≤ n) (h : n + (↑(sumBy cU L) : Int) ≤ 2147483647)  : LoopSem Try.prog (loopAt Try.f30 0) (Ic_markUnitSLa L n)
 (Yc_markUnitSLa L n) := by
  refine LoopSem.ofHead wide fun k h => ⟨_, _, run_c_markUnitSLa L n k, ?_⟩
  try delta a21__markUnitSLa a2__markUnitSLa a30__markUnitSLa a10__markUnitSLa a13__markUnitSLa a11__markUnitSLa a23__markUnitSLa a22__markUnitSLa a29__markUnitSLa a16__markUnitSLa a28__markUnitSLa a25__markUnitSLa a9__markUnitSLa a1__markUnitSLa a15__markUnitSLa a12__markUnitSLa a19__markUnitSLa a24__markUnitSLa a18__markUnitSLa a3__markUnitSLa a4__markUnitSLa a17__markUnitSLa a31__markUnitSLa a5__markUnitSLa a6__markUnitSLa a7__markUnitSLa a8__markUnitSLa a14__markUnitSLa a20__markUnitSLa a26__markUnitSLa a27__markUnitSLa
  have g0 := sumBy_takeLe cU L (k + 1)
  with_reducible repeat' (first | apply And.intro | exact flatI | exact flatS | exact rowLens | (intro; skip) | apply obsN | apply obsC | apply obA | apply obM | apply obB | apply svA | apply tupA | apply lcA | apply lcS | apply svC | apply liC | apply lbC | apply lsC | apply vIc | apply vBc | apply vSc | apply vLc | apply mapC | apply Hc_markUnitSLa | apply Ec_markUnitSLa | apply EW0c_markUnitSLa | apply c_markText | apply c_markIntS | apply c_markDatumS | apply c_markDatumSL | apply c_markCoreS | apply c_markCoreSL)
  all_goals (try simp only [std, stdM] at *)
  all_goals (try (first | with_reducible rfl | omega | assumption | (refine (decide_eq_true ?_).symm; assumption) | (refine (decide_eq_false ?_).symm; assumption) | (refine rowGet ?_; (first | omega | (simp only [std, stdM]; omega) | grind)) | (refine getC ?_ rfl; (first | omega | (simp only [std, stdM]; omega) | grind)) | (refine fill_step ?_ ?_; (first | omega | (simp only [std, stdM]; omega) | grind); (first | rfl | exact (Row.eq _).trans rfl)) | (refine fill_init ?_; (first | rfl | exact (Row.eq _).trans rfl)) | (refine set_row ?_; (simp only [List.length_map, List.length_set, mkTo_len]; omega)) | (refine mkToRow ?_; (first | omega | (simp only [std, stdM]; omega) | grind)) | (refine mkTo_row ?_ rfl; (first | omega | (simp only [std, stdM]; omega) | grind)) | (refine mkTo_step ?_ ?_; (first | omega | (simp only [std, stdM]; omega) | grind); (first | exact mkU_C _ _ | grind [sumBy_step, getD_mem', cU_eq, mkU_C, mkTo_all, snocI, snocS, rowSnoc])) | grind [sumBy_step, getD_mem', cU_eq, mkU_C, mkTo_all, snocI, snocS, rowSnoc]))
theorem run_c_markUnitS (L : List Unit) (n : Int) : aexec Try.prog (Option.getD (Func.body Try.f30) Code.skip) (entry [Ob.arr true 10 (List.map unitC L)] [SV.one (AC.ref 0), li n]
 97) [Orc.ghost (Ghost.sel [0] [0, 1, 5]), Orc.loop (List.length L - 0) (Lc_markUnitSLa L n 0) (Ic_markUnitSLa L n) [(True, AEx.exit 0, W0c_markUnitSLa L n (li (n + (↑(sumBy cU L)
 : Int))) (Ob.arr true 10 (List.map unitC (seqM mkU cU L n))), [Orc.fin []])]] (finK Try.prog [ResultVar.tmp 4] [Ob.arr true 10 (List.map unitC (seqM mkU cU L n))] (AV.sv (li (n +
 (↑(sumBy cU L) : Int))))) = (Tc_markUnitSLa L n (li 0) (li n) (Ob.arr true 10 (List.map unitC L)) = Lc_markUnitSLa L n 0 ∧ Ic_markUnitSLa L n (List.length L - 0) (Lc_markUnitSLa L
 n 0) ∧ LoopSem Try.prog (loopAt Try.f30 0) (Ic_markUnitSLa L n) (Yc_markUnitSLa L n) ∧ (True → ObsEq [Ob.arr true 10 (List.map unitC (seqM mkU cU L n))] [Ob.arr true 10 (List.map
 unitC (seqM mkU cU L n))] ∧ AV.sv (li (n + (↑(sumBy cU L) : Int))) = AV.sv (li (n + (↑(sumBy cU L) : Int)))) ∧ True) := by kernel_rfl
theorem c_markUnitS (L : List Unit) (n : Int) (h0 : 0 ≤ n) (h : n + sumBy cU L ≤ 2147483647)  : P_c_markUnitS L n := by
  refine CallOK.ofRun wide (run_c_markUnitS L n) Try.call30 Try.func30 rfl rfl rfl ?_
  have gl := cU_len L
  with_reducible repeat' (first | apply And.intro | exact flatI | exact flatS | exact rowLens | (intro; skip) | apply obsN | apply obsC | apply obA | apply obM | apply obB | apply svA | apply tupA | apply lcA | apply lcS | apply svC | apply liC | apply lbC | apply lsC | apply vIc | apply vBc | apply vSc | apply vLc | apply mapC | apply Hc_markUnitSLa | apply Ec_markUnitSLa | apply Sc_markUnitSLa | apply EW0c_markUnitSLa | apply c_markText | apply c_markIntS | apply c_markDatumS | apply c_markDatumSL | apply c_markCoreS | apply c_markCoreSL)
  all_goals (try simp only [std, stdM] at *)
  all_goals (try (first | with_reducible rfl | omega | assumption | (refine (decide_eq_true ?_).symm; assumption) | (refine (decide_eq_false ?_).symm; assumption) | (refine rowGet ?_; (first | omega | (simp only [std, stdM]; omega) | grind)) | (refine getC ?_ rfl; (first | omega | (simp only [std, stdM]; omega) | grind)) | (refine fill_step ?_ ?_; (first | omega | (simp only [std, stdM]; omega) | grind); (first | rfl | exact (Row.eq _).trans rfl)) | (refine fill_init ?_; (first | rfl | exact (Row.eq _).trans rfl)) | (refine set_row ?_; (simp only [List.length_map, List.length_set, mkTo_len]; omega)) | (refine mkToRow ?_; (first | omega | (simp only [std, stdM]; omega) | grind)) | (refine mkTo_row ?_ rfl; (first | omega | (simp only [std, stdM]; omega) | grind)) | (refine mkTo_step ?_ ?_; (first | omega | (simp only [std, stdM]; omega) | grind); (first | grind [mkTo_all, snocI, snocS, rowSnoc])) | grind [mkTo_all, snocI, snocS, rowSnoc]))
end Go.Proofs.Ytehpjofddjmbpaa
end
section
namespace Go.Proofs.Ytehpjofddjmbpaa
open Go Go.Proofs.Ytehpjofddjmbpaa.Ab
set_option linter.unusedVariables false
set_option linter.unusedSimpArgs false
set_option maxHeartbeats 4000000
abbrev P_c_heldIntS (L : List Int) (n : Int) : Prop := CallOK Try.prog 32 [] [ll (L.map intC), li n] [] (.sv (li (n + L.length)))
def Tc_heldIntSLa (L : List Int) (n : Int) (x0 : SV) (x1 : SV) : St := St.mk (regsOf 21 [(0, AV.sv (ll (List.map intC L))), (1, AV.sv x1), (5, AV.sv x0)]) [] 0 
def Lc_heldIntSLa (L : List Int) (n : Int) (k : Nat) : St := Tc_heldIntSLa L n (li (↑k : Int)) (li (n + (↑k : Int))) 
def Ic_heldIntSLa (L : List Int) (n : Int) : Nat → St → Prop := Head (Lc_heldIntSLa L n) (fun k => k ≤ List.length L ∧ List.length L ≤ 9223372036854775807) fun k => List.length L -
 k 
def W0c_heldIntSLa (L : List Int) (n : Int) (x0 : SV) : St := St.mk (regsOf 21 [(1, AV.sv x0)]) [] 0 
def W1c_heldIntSLa (L : List Int) (n : Int) (x0 : SV) : St := St.mk (regsOf 21 [(4, AV.sv x0)]) [] 0 
def Yc_heldIntSLa (L : List Int) (n : Int) : List (Prop × AEx × St) := [(True, AEx.exit 0, W0c_heldIntSLa L n (li (n + (↑(List.length L) : Int)))), (False, AEx.ret, W1c_heldIntSLa
 L n (li (-1 : Int)))]
theorem Hc_heldIntSLa {L : List Int} {n : Int} {k : Nat} {m : Nat} (h : (fun k => k ≤ List.length L ∧ List.length L ≤ 9223372036854775807) k) (hm : (fun k => List.length L - k) k =
 m) : Ic_heldIntSLa L n m (Lc_heldIntSLa L n k) := hm ▸ Head.mk h
theorem Ec_heldIntSLa {L : List Int} {n : Int} {k : Nat} {x0 : SV} {x1 : SV} (h0 : x0 = (li (↑k : Int))) (h1 : x1 = (li (n + (↑k : Int)))) : Tc_heldIntSLa L n x0 x1 = Lc_heldIntSLa
 L n k := by
  rw [h0, h1]
  rfl
theorem EW0c_heldIntSLa {L : List Int} {n : Int} {x0 y0 : SV} (h0 : x0 = y0) : W0c_heldIntSLa L n x0 = W0c_heldIntSLa L n y0 := by rw [h0]
theorem EW1c_heldIntSLa {L : List Int} {n : Int} {x0 y0 : SV} (h0 : x0 = y0) : W1c_heldIntSLa L n x0 = W1c_heldIntSLa L n y0 := by rw [h0]
theorem run_c_heldIntSLa (L : List Int) (n : Int) (k : Nat) : aexec Try.prog (loopAt Try.f32 0) (Lc_heldIntSLa L n k) [Orc.br [Orc.cells (intC (List.getD L k default)), Orc.br
 [Orc.ghost (Ghost.sel [] [4]), Orc.out 1] [Orc.ghost (Ghost.sel [] [0, 1, 5]), Orc.goto (List.length L - (k + 1)) (Lc_heldIntSLa L n (k + 1))]] [Orc.ghost (Ghost.sel [] [1]),
 Orc.out 0]] (loopK (Ic_heldIntSLa L n) (Yc_heldIntSLa L n) (List.length L - k)) = (List.length (List.map intC L) ≤ 9223372036854775807 → (decide ((↑k : Int) < (↑(List.length
 (List.map intC L)) : Int)) = true → (0 ≤ (↑k : Int) ∧ (List.map intC L)[Int.toNat (↑k : Int)]? = some [cI (List.getD L k 0)]) ∧ (decide (List.getD L k (0 : Int) ≠ n + (↑k : Int))
 = true → False ∧ W1c_heldIntSLa L n (li (-1 : Int)) = W1c_heldIntSLa L n (li (-1 : Int))) ∧ (decide (List.getD L k (0 : Int) ≠ n + (↑k : Int)) = false → rng IntKind.i64 (n + (↑k :
 Int) + 1) ∧ rng IntKind.i64 ((↑k : Int) + 1) ∧ List.length L - (k + 1) < List.length L - k ∧ Tc_heldIntSLa L n (li ((↑k : Int) + 1)) (li (n + (↑k : Int) + 1)) = Lc_heldIntSLa L n
 (k + 1) ∧ Ic_heldIntSLa L n (List.length L - (k + 1)) (Lc_heldIntSLa L n (k + 1)))) ∧ (decide ((↑k : Int) < (↑(List.length (List.map intC L)) : Int)) = false → True ∧
 W0c_heldIntSLa L n (li (n + (↑k : Int))) = W0c_heldIntSLa L n (li (n + (↑(List.length L) : Int))))) := by kernel_rfl
theorem Sc_heldIntSLa (L : List Int) (n : Int) (h0 : 0 ≤ n) (h : n + (↑(List.length L) : Int) ≤ 2147483647) (hm : seqM mkI cOne L n = L)  : LoopSem Try.prog (loopAt Try.f32 0)
 (Ic_heldIntSLa L n) (Yc_heldIntSLa L n) := by
  refine LoopSem.ofHead wide fun k h => ⟨_, _, run_c_heldIntSLa L n k, ?_⟩
  with_reducible repeat' (first | apply And.intro | exact flatI | exact flatS | exact rowLens | (intro; skip) | apply obsN | apply obsC | apply obA | apply obM | apply obB | apply svA | apply tupA | apply lcA | apply lcS | apply svC | apply liC | apply lbC | apply lsC | apply vIc | apply vBc | apply vSc | apply vLc | apply mapC | apply Hc_heldIntSLa | apply Ec_heldIntSLa | apply EW0c_heldIntSLa | apply EW1c_heldIntSLa)
  all_goals (try simp only [std, stdM] at *)
  all_goals (try (first | with_reducible rfl | omega | assumption | (refine (decide_eq_true ?_).symm; assumption) | (refine (decide_eq_false ?_).symm; assumption) | (refine rowGet ?_; (first | omega | (simp only [std, stdM]; omega) | grind)) | (refine getC ?_ rfl; (first | omega | (simp only [std, stdM]; omega) | grind)) | (refine fill_step ?_ ?_; (first | omega | (simp only [std, stdM]; omega) | grind); (first | rfl | exact (Row.eq _).trans rfl)) | (refine fill_init ?_; (first | rfl | exact (Row.eq _).trans rfl)) | (refine set_row ?_; (simp only [List.length_map, List.length_set, mkTo_len]; omega)) | (refine mkToRow ?_; (first | omega | (simp only [std, stdM]; omega) | grind)) | (refine mkTo_row ?_ rfl; (first | omega | (simp only [std, stdM]; omega) | grind)) | (refine mkTo_step ?_ ?_; (first | omega | (simp only [std, stdM]; omega) | grind); (first | grind [seqI_get hm, snocI, snocS, rowSnoc])) | grind [seqI_get hm, snocI, snocS, rowSnoc]))
theorem run_c_heldIntS (L : List Int) (n : Int) : aexec Try.prog (Option.getD (Func.body Try.f32) Code.skip) (entry [] [ll (List.map intC L), li n] 21) [Orc.ghost (Ghost.sel [] [0,
 1, 5]), Orc.loop (List.length L - 0) (Lc_heldIntSLa L n 0) (Ic_heldIntSLa L n) [(True, AEx.exit 0, W0c_heldIntSLa L n (li (n + (↑(List.length L) : Int))), [Orc.fin []]), (False,
 AEx.ret, W1c_heldIntSLa L n (li (-1 : Int)), [Orc.fin []])]] (finK Try.prog [ResultVar.tmp 4] [] (AV.sv (li (n + (↑(List.length L) : Int))))) = (Tc_heldIntSLa L n (li 0) (li n) =
 Lc_heldIntSLa L n 0 ∧ Ic_heldIntSLa L n (List.length L - 0) (Lc_heldIntSLa L n 0) ∧ LoopSem Try.prog (loopAt Try.f32 0) (Ic_heldIntSLa L n) (Yc_heldIntSLa L n) ∧ (True → ObsEq []
 [] ∧ AV.sv (li (n + (↑(List.length L) : Int))) = AV.sv (li (n + (↑(List.length L) : Int)))) ∧ (False → ObsEq [] [] ∧ AV.sv (li (-1 : Int)) = AV.sv (li (n + (↑(List.length L) :
 Int)))) ∧ True) := by kernel_rfl
theorem c_heldIntS (L : List Int) (n : Int) (h0 : 0 ≤ n) (h : n + L.length ≤ 2147483647) (hm : seqM mkI cOne L n = L)  : P_c_heldIntS L n := by
  refine CallOK.ofRun wide (run_c_heldIntS L n) Try.call32 Try.func32 rfl rfl rfl ?_
  with_reducible repeat' (first | apply And.intro | exact flatI | exact flatS | exact rowLens | (intro; skip) | apply obsN | apply obsC | apply obA | apply obM | apply obB | apply svA | apply tupA | apply lcA | apply lcS | apply svC | apply liC | apply lbC | apply lsC | apply vIc | apply vBc | apply vSc | apply vLc | apply mapC | apply Hc_heldIntSLa | apply Ec_heldIntSLa | apply Sc_heldIntSLa | apply EW0c_heldIntSLa | apply EW1c_heldIntSLa)
  all_goals (try simp only [std, stdM] at *)
  all_goals (try (first | with_reducible rfl | omega | assumption | (refine (decide_eq_true ?_).symm; assumption) | (refine (decide_eq_false ?_).symm; assumption) | (refine rowGet ?_; (first | omega | (simp only [std, stdM]; omega) | grind)) | (refine getC ?_ rfl; (first | omega | (simp only [std, stdM]; omega) | grind)) | (refine fill_step ?_ ?_; (first | omega | (simp only [std, stdM]; omega) | grind); (first | rfl | exact (Row.eq _).trans rfl)) | (refine fill_init ?_; (first | rfl | exact (Row.eq _).trans rfl)) | (refine set_row ?_; (simp only [List.length_map, List.length_set, mkTo_len]; omega)) | (refine mkToRow ?_; (first | omega | (simp only [std, stdM]; omega) | grind)) | (refine mkTo_row ?_ rfl; (first | omega | (simp only [std, stdM]; omega) | grind)) | (refine mkTo_step ?_ ?_; (first | omega | (simp only [std, stdM]; omega) | grind); (first | grind [snocI, snocS, rowSnoc])) | grind [snocI, snocS, rowSnoc]))
end Go.Proofs.Ytehpjofddjmbpaa
end
section
namespace Go.Proofs.Ytehpjofddjmbpaa
open Go Go.Proofs.Ytehpjofddjmbpaa.Ab
set_option linter.unusedVariables false
set_option linter.unusedSimpArgs false
set_option maxHeartbeats 4000000
abbrev P_c_szIntS (L : List Int) (left : Int) : Prop := CallOK Try.prog 149 [] [ll (L.map intC), li left] [] (.sv (li (sz L.length left)))
theorem run_c_szIntS (L : List Int) (left : Int) : aexec Try.prog (Option.getD (Func.body Try.f149) Code.skip) (entry [] [ll (List.map intC L), li left] 12) [Orc.br [Orc.fin []]
 [Orc.fin []]] (finK Try.prog [ResultVar.tmp 4] [] (AV.sv (li (sz (List.length L) left)))) = (List.length (List.map intC L) ≤ 9223372036854775807 → rng IntKind.i64 (left -
 (↑(List.length (List.map intC L)) : Int)) ∧ (decide (left - (↑(List.length (List.map intC L)) : Int) < 0) = true → ObsEq [] [] ∧ AV.sv (li (-1 : Int)) = AV.sv (li (sz (List.length
 L) left))) ∧ (decide (left - (↑(List.length (List.map intC L)) : Int) < 0) = false → ObsEq [] [] ∧ AV.sv (li (left - (↑(List.length (List.map intC L)) : Int))) = AV.sv (li (sz
 (List.length L) left)))) := by kernel_rfl
theorem c_szIntS (L : List Int) (left : Int) (h0 : 0 ≤ left) (h : left ≤ 2147483647)  : P_c_szIntS L left := by
  refine CallOK.ofRun wide (run_c_szIntS L left) Try.call149 Try.func149 rfl rfl rfl ?_
  with_reducible repeat' (first | apply And.intro | exact flatI | exact flatS | exact rowLens | (intro; skip) | apply obsN | apply obsC | apply obA | apply obM | apply obB | apply svA | apply tupA | apply lcA | apply lcS | apply svC | apply liC | apply lbC | apply lsC | apply vIc | apply vBc | apply vSc | apply vLc | apply mapC)
  all_goals (try simp only [std] at *)
  all_goals (try (first | with_reducible rfl | omega | assumption | (refine (decide_eq_true ?_).symm; assumption) | (refine (decide_eq_false ?_).symm; assumption) | (refine rowGet ?_; (first | omega | (simp only [std]; omega) | grind)) | (refine getC ?_ rfl; (first | omega | (simp only [std]; omega) | grind)) | (refine fill_step ?_ ?_; (first | omega | (simp only [std]; omega) | grind); (first | rfl | exact (Row.eq _).trans rfl)) | (refine fill_init ?_; (first | rfl | exact (Row.eq _).trans rfl)) | grind [sz, snocI, snocS, rowSnoc]))
abbrev P_c_szDatumS (L : List Datum) (left : Int) : Prop := CallOK Try.prog 118 [] [ll (L.map datumC), li left] [] (.sv (li (sz (L.length + sumBy wD L) left)))
abbrev P_c_szDatum (x : Datum) (left : Int) : Prop := CallOK Try.prog 42 [] [datumA x, li left] [] (.sv (li (sz (wD x) left)))
def Tc_szDatumSLa (L : List Datum) (left : Int) (x0 : SV) (x1 : SV) : St := St.mk (regsOf 27 [(0, AV.sv (ll (List.map datumC L))), (1, AV.sv x1), (5, AV.sv x0)]) [] 0 
def Lc_szDatumSLa (L : List Datum) (left : Int) (k : Nat × Int) : St := Tc_szDatumSLa L left (li (↑(Prod.fst k) : Int)) (li (Prod.snd k)) 
def Ic_szDatumSLa (L : List Datum) (left : Int) : Nat → St → Prop := Head (Lc_szDatumSLa L left) (fun k => Prod.fst k ≤ List.length L ∧ List.length L ≤ 9223372036854775807 ∧ 0 ≤
 Prod.snd k ∧ Prod.snd k ≤ left ∧ sz (sumBy wD (List.drop (Prod.fst k) L)) (Prod.snd k) = sz (List.length L + sumBy wD L) left) fun k => List.length L - Prod.fst k 
def W0c_szDatumSLa (L : List Datum) (left : Int) (x0 : SV) : St := St.mk (regsOf 27 [(1, AV.sv x0)]) [] 0 
def W1c_szDatumSLa (L : List Datum) (left : Int) (x0 : SV) : St := St.mk (regsOf 27 [(4, AV.sv x0)]) [] 0 
def Yc_szDatumSLa (L : List Datum) (left : Int) : List (Prop × AEx × St) := [(0 ≤ sz (List.length L + sumBy wD L) left, AEx.exit 0, W0c_szDatumSLa L left (li (sz (List.length L +
 sumBy wD L) left))), (sz (List.length L + sumBy wD L) left = (-1 : Int), AEx.ret, W1c_szDatumSLa L left (li (-1 : Int)))]
theorem Hc_szDatumSLa {L : List Datum} {left : Int} {k : Nat × Int} {m : Nat} (h : (fun k => Prod.fst k ≤ List.length L ∧ List.length L ≤ 9223372036854775807 ∧ 0 ≤ Prod.snd k ∧
 Prod.snd k ≤ left ∧ sz (sumBy wD (List.drop (Prod.fst k) L)) (Prod.snd k) = sz (List.length L + sumBy wD L) left) k) (hm : (fun k => List.length L - Prod.fst k) k = m) :
 Ic_szDatumSLa L left m (Lc_szDatumSLa L left k) := hm ▸ Head.mk h
theorem Ec_szDatumSLa {L : List Datum} {left : Int} {k : Nat × Int} {x0 : SV} {x1 : SV} (h0 : x0 = (li (↑(Prod.fst k) : Int))) (h1 : x1 = (li (Prod.snd k))) : Tc_szDatumSLa L left
 x0 x1 = Lc_szDatumSLa L left k := by
  rw [h0, h1]
  rfl
theorem EW0c_szDatumSLa {L : List Datum} {left : Int} {x0 y0 : SV} (h0 : x0 = y0) : W0c_szDatumSLa L left x0 = W0c_szDatumSLa L left y0 := by rw [h0]
theorem EW1c_szDatumSLa {L : List Datum} {left : Int} {x0 y0 : SV} (h0 : x0 = y0) : W1c_szDatumSLa L left x0 = W1c_szDatumSLa L left y0 := by rw [h0]
theorem run_c_szDatumSLa (L : List Datum) (left : Int) (k : Nat × Int) : aexec Try.prog (loopAt Try.f118 0) (Lc_szDatumSLa L left k) [Orc.br [Orc.cells (datumF (List.getD L
 (Prod.fst k) default)), Orc.call [Mode.rd, Mode.rd] [] (AV.sv (li (sz (wD (List.getD L (Prod.fst k) default)) (Prod.snd k)))), Orc.br [Orc.ghost (Ghost.sel [] [4]), Orc.out 1]
 [Orc.ghost (Ghost.sel [] [0, 1, 5]), Orc.goto (List.length L - (Prod.fst k + 1)) (Lc_szDatumSLa L left (Prod.fst k + 1, sz (wD (List.getD L (Prod.fst k) default)) (Prod.snd k)))]]
 [Orc.ghost (Ghost.sel [] [1]), Orc.out 0]] (loopK (Ic_szDatumSLa L left) (Yc_szDatumSLa L left) (List.length L - Prod.fst k)) = (List.length (List.map datumC L) ≤
 9223372036854775807 → (decide ((↑(Prod.fst k) : Int) < (↑(List.length (List.map datumC L)) : Int)) = true → (0 ≤ (↑(Prod.fst k) : Int) ∧ (List.map datumC L)[Int.toNat (↑(Prod.fst
 k) : Int)]? = some (datumF (List.getD L (Prod.fst k) default))) ∧ P_c_szDatum (List.getD L (Prod.fst k) default) (Prod.snd k) ∧ (decide (sz (wD (List.getD L (Prod.fst k) default))
 (Prod.snd k) < 0) = true → sz (List.length L + sumBy wD L) left = (-1 : Int) ∧ W1c_szDatumSLa L left (li (-1 : Int)) = W1c_szDatumSLa L left (li (-1 : Int))) ∧ (decide (sz (wD
 (List.getD L (Prod.fst k) default)) (Prod.snd k) < 0) = false → rng IntKind.i64 ((↑(Prod.fst k) : Int) + 1) ∧ List.length L - (Prod.fst k + 1) < List.length L - Prod.fst k ∧
 Tc_szDatumSLa L left (li ((↑(Prod.fst k) : Int) + 1)) (li (sz (wD (List.getD L (Prod.fst k) default)) (Prod.snd k))) = Lc_szDatumSLa L left (Prod.fst k + 1, sz (wD (List.getD L
 (Prod.fst k) default)) (Prod.snd k)) ∧ Ic_szDatumSLa L left (List.length L - (Prod.fst k + 1)) (Lc_szDatumSLa L left (Prod.fst k + 1, sz (wD (List.getD L (Prod.fst k) default))
 (Prod.snd k))))) ∧ (decide ((↑(Prod.fst k) : Int) < (↑(List.length (List.map datumC L)) : Int)) = false → 0 ≤ sz (List.length L + sumBy wD L) left ∧ W0c_szDatumSLa L left (li
 (Prod.snd k)) = W0c_szDatumSLa L left (li (sz (List.length L + sumBy wD L) left)))) := by kernel_rfl
theorem Sc_szDatumSLa (L : List Datum) (left : Int) (h0 : 0 ≤ left) (h : left ≤ 2147483647) (ih : ∀ (x : Datum), x ∈ L → ∀ (left : Int), 0 ≤ left → left ≤ 2147483647 → P_c_szDatum
 x left)  : LoopSem Try.prog (loopAt Try.f118 0) (Ic_szDatumSLa L left) (Yc_szDatumSLa L left) := by
  refine LoopSem.ofHead wide fun k h => ⟨_, _, run_c_szDatumSLa L left k, ?_⟩
  obtain ⟨i, n⟩ := k
  simp only at *
  with_reducible repeat' (first | apply And.intro | exact flatI | exact flatS | exact rowLens | exact ih | (intro; skip) | apply obsN | apply obsC | apply obA | apply obM | apply obB | apply svA | apply tupA | apply lcA | apply lcS | apply svC | apply liC | apply lbC | apply lsC | apply vIc | apply vBc | apply vSc | apply vLc | apply mapC | apply Hc_szDatumSLa | apply Ec_szDatumSLa | apply EW0c_szDatumSLa | apply EW1c_szDatumSLa | apply ih)
  all_goals (try simp only [std] at *)
  all_goals (try (first | with_reducible rfl | omega | assumption | (refine (decide_eq_true ?_).symm; assumption) | (refine (decide_eq_false ?_).symm; assumption) | (refine rowGet ?_; (first | omega | (simp only [std]; omega) | grind)) | (refine getC ?_ rfl; (first | omega | (simp only [std]; omega) | grind)) | (refine fill_step ?_ ?_; (first | omega | (simp only [std]; omega) | grind); (first | rfl | exact (Row.eq _).trans rfl)) | (refine fill_init ?_; (first | rfl | exact (Row.eq _).trans rfl)) | grind [drop_get, sumBy, sz, getD_mem', snocI, snocS, rowSnoc]))
theorem run_c_szDatumS (L : List Datum) (left : Int) : aexec Try.prog (Option.getD (Func.body Try.f118) Code.skip) (entry [] [ll (List.map datumC L), li left] 27) [Orc.br [Orc.fin
 []] [Orc.ghost (Ghost.sel [] [0, 1, 5]), Orc.loop (List.length L - 0) (Lc_szDatumSLa L left (0, left - (↑(List.length L) : Int))) (Ic_szDatumSLa L left) [(0 ≤ sz (List.length L +
 sumBy wD L) left, AEx.exit 0, W0c_szDatumSLa L left (li (sz (List.length L + sumBy wD L) left)), [Orc.fin []]), (sz (List.length L + sumBy wD L) left = (-1 : Int), AEx.ret,
 W1c_szDatumSLa L left (li (-1 : Int)), [Orc.fin []])]]] (finK Try.prog [ResultVar.tmp 4] [] (AV.sv (li (sz (List.length L + sumBy wD L) left)))) = (List.length (List.map datumC L)
 ≤ 9223372036854775807 → rng IntKind.i64 (left - (↑(List.length (List.map datumC L)) : Int)) ∧ (decide (left - (↑(List.length (List.map datumC L)) : Int) < 0) = true → ObsEq [] []
 ∧ AV.sv (li (-1 : Int)) = AV.sv (li (sz (List.length L + sumBy wD L) left))) ∧ (decide (left - (↑(List.length (List.map datumC L)) : Int) < 0) = false → Tc_szDatumSLa L left (li
 0) (li (left - (↑(List.length (List.map datumC L)) : Int))) = Lc_szDatumSLa L left (0, left - (↑(List.length L) : Int)) ∧ Ic_szDatumSLa L left (List.length L - 0) (Lc_szDatumSLa L
 left (0, left - (↑(List.length L) : Int))) ∧ LoopSem Try.prog (loopAt Try.f118 0) (Ic_szDatumSLa L left) (Yc_szDatumSLa L left) ∧ (Int.NonNeg (sz (List.length L + sumBy wD L) left
 - 0) → ObsEq [] [] ∧ AV.sv (li (sz (List.length L + sumBy wD L) left)) = AV.sv (li (sz (List.length L + sumBy wD L) left))) ∧ (sz (List.length L + sumBy wD L) left = (-1 : Int) →
 ObsEq [] [] ∧ AV.sv (li (-1 : Int)) = AV.sv (li (sz (List.length L + sumBy wD L) left))) ∧ True)) := by kernel_rfl
theorem c_szDatumS (L : List Datum) (left : Int) (h0 : 0 ≤ left) (h : left ≤ 2147483647) (ih : ∀ x ∈ L, ∀ (left : Int) (h0 : 0 ≤ left) (h : left ≤ 2147483647), P_c_szDatum x left) 
 : P_c_szDatumS L left := by
  refine CallOK.ofRun wide (run_c_szDatumS L left) Try.call118 Try.func118 rfl rfl rfl ?_
  with_reducible repeat' (first | apply And.intro | exact flatI | exact flatS | exact rowLens | exact ih | (intro; skip) | apply obsN | apply obsC | apply obA | apply obM | apply obB | apply svA | apply tupA | apply lcA | apply lcS | apply svC | apply liC | apply lbC | apply lsC | apply vIc | apply vBc | apply vSc | apply vLc | apply mapC | apply Hc_szDatumSLa | apply Ec_szDatumSLa | apply Sc_szDatumSLa | apply EW0c_szDatumSLa | apply EW1c_szDatumSLa)
  all_goals (try simp only [std] at *)
  all_goals (try (first | with_reducible rfl | omega | assumption | (refine (decide_eq_true ?_).symm; assumption) | (refine (decide_eq_false ?_).symm; assumption) | (refine rowGet ?_; (first | omega | (simp only [std]; omega) | grind)) | (refine getC ?_ rfl; (first | omega | (simp only [std]; omega) | grind)) | (refine fill_step ?_ ?_; (first | omega | (simp only [std]; omega) | grind); (first | rfl | exact (Row.eq _).trans rfl)) | (refine fill_init ?_; (first | rfl | exact (Row.eq _).trans rfl)) | grind [sz, snocI, snocS, rowSnoc]))
theorem run_c_szDatum_s (x : Datum) (left : Int) : aexec Try.prog (Option.getD (Func.body Try.f42) Code.skip) (entry [] [datumA x, li left] 19) [Orc.br [Orc.fin []] [Orc.call
 [Mode.rd, Mode.rd] [] (AV.sv (li (sz (List.length (Datum.items x) + sumBy wD (Datum.items x)) (left - (↑(List.length (Array.toList (ByteArray.data (Datum.text x)))) : Int))))),
 Orc.br [Orc.fin []] [Orc.fin []]]] (finK Try.prog [ResultVar.tmp 4] [] (AV.sv (li (sz (wD x) left)))) = (List.length (Array.toList (ByteArray.data (Datum.text x))) ≤
 9223372036854775807 → rng IntKind.i64 (left - (↑(List.length (Array.toList (ByteArray.data (Datum.text x)))) : Int)) ∧ (decide (left - (↑(List.length (Array.toList (ByteArray.data
 (Datum.text x)))) : Int) < 0) = true → ObsEq [] [] ∧ AV.sv (li (-1 : Int)) = AV.sv (li (sz (wD x) left))) ∧ (decide (left - (↑(List.length (Array.toList (ByteArray.data
 (Datum.text x)))) : Int) < 0) = false → P_c_szDatumS (Datum.items x) (left - (↑(List.length (Array.toList (ByteArray.data (Datum.text x)))) : Int)) ∧ (decide (sz (List.length
 (Datum.items x) + sumBy wD (Datum.items x)) (left - (↑(List.length (Array.toList (ByteArray.data (Datum.text x)))) : Int)) < 0) = true → ObsEq [] [] ∧ AV.sv (li (-1 : Int)) =
 AV.sv (li (sz (wD x) left))) ∧ (decide (sz (List.length (Datum.items x) + sumBy wD (Datum.items x)) (left - (↑(List.length (Array.toList (ByteArray.data (Datum.text x)))) : Int))
 < 0) = false → ObsEq [] [] ∧ AV.sv (li (sz (List.length (Datum.items x) + sumBy wD (Datum.items x)) (left - (↑(List.length (Array.toList (ByteArray.data (Datum.text x)))) :
 Int)))) = AV.sv (li (sz (wD x) left))))) := by kernel_rfl
theorem c_szDatum_s (x : Datum) (left : Int) (h0 : 0 ≤ left) (h : left ≤ 2147483647) (ih : ∀ z ∈ x.items, ∀ (left : Int) (h0 : 0 ≤ left) (h : left ≤ 2147483647), P_c_szDatum z
 left)  : P_c_szDatum x left := by
  refine CallOK.ofRun wide (run_c_szDatum_s x left) Try.call42 Try.func42 rfl rfl rfl ?_
  with_reducible repeat' (first | apply And.intro | exact flatI | exact flatS | exact rowLens | exact ih | (intro; skip) | apply obsN | apply obsC | apply obA | apply obM | apply obB | apply svA | apply tupA | apply lcA | apply lcS | apply svC | apply liC | apply lbC | apply lsC | apply vIc | apply vBc | apply vSc | apply vLc | apply mapC | apply c_szDatumS | apply ih)
  all_goals (try simp only [std] at *)
  all_goals (try (first | with_reducible rfl | omega | assumption | (refine (decide_eq_true ?_).symm; assumption) | (refine (decide_eq_false ?_).symm; assumption) | (refine rowGet ?_; (first | omega | (simp only [std]; omega) | grind)) | (refine getC ?_ rfl; (first | omega | (simp only [std]; omega) | grind)) | (refine fill_step ?_ ?_; (first | omega | (simp only [std]; omega) | grind); (first | rfl | exact (Row.eq _).trans rfl)) | (refine fill_init ?_; (first | rfl | exact (Row.eq _).trans rfl)) | grind [wD_eq, sz, wS, snocI, snocS, rowSnoc]))
theorem c_szDatum (x : Datum) : ∀ (left : Int) (h0 : 0 ≤ left) (h : left ≤ 2147483647), P_c_szDatum x left := Datum.ind (P := fun x => ∀ (left : Int) (h0 : 0 ≤ left) (h : left ≤ 2147483647), P_c_szDatum x left) (fun x ih left h0 h => c_szDatum_s x left h0 h ih) x
abbrev P_c_szCoreS (L : List Core) (left : Int) : Prop := CallOK Try.prog 159 [] [ll (L.map coreC), li left] [] (.sv (li (sz (L.length + sumBy wC L) left)))
abbrev P_c_szCore (x : Core) (left : Int) : Prop := CallOK Try.prog 58 [] [coreA x, li left] [] (.sv (li (sz (wC x) left)))
def Tc_szCoreSLa (L : List Core) (left : Int) (x0 : SV) (x1 : SV) : St := St.mk (regsOf 27 [(0, AV.sv (ll (List.map coreC L))), (1, AV.sv x1), (5, AV.sv x0)]) [] 0 
def Lc_szCoreSLa (L : List Core) (left : Int) (k : Nat × Int) : St := Tc_szCoreSLa L left (li (↑(Prod.fst k) : Int)) (li (Prod.snd k)) 
def Ic_szCoreSLa (L : List Core) (left : Int) : Nat → St → Prop := Head (Lc_szCoreSLa L left) (fun k => Prod.fst k ≤ List.length L ∧ List.length L ≤ 9223372036854775807 ∧ 0 ≤
 Prod.snd k ∧ Prod.snd k ≤ left ∧ sz (sumBy wC (List.drop (Prod.fst k) L)) (Prod.snd k) = sz (List.length L + sumBy wC L) left) fun k => List.length L - Prod.fst k 
def W0c_szCoreSLa (L : List Core) (left : Int) (x0 : SV) : St := St.mk (regsOf 27 [(1, AV.sv x0)]) [] 0 
def W1c_szCoreSLa (L : List Core) (left : Int) (x0 : SV) : St := St.mk (regsOf 27 [(4, AV.sv x0)]) [] 0 
def Yc_szCoreSLa (L : List Core) (left : Int) : List (Prop × AEx × St) := [(0 ≤ sz (List.length L + sumBy wC L) left, AEx.exit 0, W0c_szCoreSLa L left (li (sz (List.length L +
 sumBy wC L) left))), (sz (List.length L + sumBy wC L) left = (-1 : Int), AEx.ret, W1c_szCoreSLa L left (li (-1 : Int)))]
theorem Hc_szCoreSLa {L : List Core} {left : Int} {k : Nat × Int} {m : Nat} (h : (fun k => Prod.fst k ≤ List.length L ∧ List.length L ≤ 9223372036854775807 ∧ 0 ≤ Prod.snd k ∧
 Prod.snd k ≤ left ∧ sz (sumBy wC (List.drop (Prod.fst k) L)) (Prod.snd k) = sz (List.length L + sumBy wC L) left) k) (hm : (fun k => List.length L - Prod.fst k) k = m) :
 Ic_szCoreSLa L left m (Lc_szCoreSLa L left k) := hm ▸ Head.mk h
theorem Ec_szCoreSLa {L : List Core} {left : Int} {k : Nat × Int} {x0 : SV} {x1 : SV} (h0 : x0 = (li (↑(Prod.fst k) : Int))) (h1 : x1 = (li (Prod.snd k))) : Tc_szCoreSLa L left x0
 x1 = Lc_szCoreSLa L left k := by
  rw [h0, h1]
  rfl
theorem EW0c_szCoreSLa {L : List Core} {left : Int} {x0 y0 : SV} (h0 : x0 = y0) : W0c_szCoreSLa L left x0 = W0c_szCoreSLa L left y0 := by rw [h0]
theorem EW1c_szCoreSLa {L : List Core} {left : Int} {x0 y0 : SV} (h0 : x0 = y0) : W1c_szCoreSLa L left x0 = W1c_szCoreSLa L left y0 := by rw [h0]
theorem run_c_szCoreSLa (L : List Core) (left : Int) (k : Nat × Int) : aexec Try.prog (loopAt Try.f159 0) (Lc_szCoreSLa L left k) [Orc.br [Orc.cells (coreF (List.getD L (Prod.fst
 k) default)), Orc.call [Mode.rd, Mode.rd] [] (AV.sv (li (sz (wC (List.getD L (Prod.fst k) default)) (Prod.snd k)))), Orc.br [Orc.ghost (Ghost.sel [] [4]), Orc.out 1] [Orc.ghost
 (Ghost.sel [] [0, 1, 5]), Orc.goto (List.length L - (Prod.fst k + 1)) (Lc_szCoreSLa L left (Prod.fst k + 1, sz (wC (List.getD L (Prod.fst k) default)) (Prod.snd k)))]] [Orc.ghost
 (Ghost.sel [] [1]), Orc.out 0]] (loopK (Ic_szCoreSLa L left) (Yc_szCoreSLa L left) (List.length L - Prod.fst k)) = (List.length (List.map coreC L) ≤ 9223372036854775807 → (decide
 ((↑(Prod.fst k) : Int) < (↑(List.length (List.map coreC L)) : Int)) = true → (0 ≤ (↑(Prod.fst k) : Int) ∧ (List.map coreC L)[Int.toNat (↑(Prod.fst k) : Int)]? = some (coreF
 (List.getD L (Prod.fst k) default))) ∧ P_c_szCore (List.getD L (Prod.fst k) default) (Prod.snd k) ∧ (decide (sz (wC (List.getD L (Prod.fst k) default)) (Prod.snd k) < 0) = true →
 sz (List.length L + sumBy wC L) left = (-1 : Int) ∧ W1c_szCoreSLa L left (li (-1 : Int)) = W1c_szCoreSLa L left (li (-1 : Int))) ∧ (decide (sz (wC (List.getD L (Prod.fst k)
 default)) (Prod.snd k) < 0) = false → rng IntKind.i64 ((↑(Prod.fst k) : Int) + 1) ∧ List.length L - (Prod.fst k + 1) < List.length L - Prod.fst k ∧ Tc_szCoreSLa L left (li
 ((↑(Prod.fst k) : Int) + 1)) (li (sz (wC (List.getD L (Prod.fst k) default)) (Prod.snd k))) = Lc_szCoreSLa L left (Prod.fst k + 1, sz (wC (List.getD L (Prod.fst k) default))
 (Prod.snd k)) ∧ Ic_szCoreSLa L left (List.length L - (Prod.fst k + 1)) (Lc_szCoreSLa L left (Prod.fst k + 1, sz (wC (List.getD L (Prod.fst k) default)) (Prod.snd k))))) ∧ (decide
 ((↑(Prod.fst k) : Int) < (↑(List.length (List.map coreC L)) : Int)) = false → 0 ≤ sz (List.length L + sumBy wC L) left ∧ W0c_szCoreSLa L left (li (Prod.snd k)) = W0c_szCoreSLa L
 left (li (sz (List.length L + sumBy wC L) left)))) := by kernel_rfl
theorem Sc_szCoreSLa (L : List Core) (left : Int) (h0 : 0 ≤ left) (h : left ≤ 2147483647) (ih : ∀ (x : Core), x ∈ L → ∀ (left : Int), 0 ≤ left → left ≤ 2147483647 → P_c_szCore x
 left)  : LoopSem Try.prog (loopAt Try.f159 0) (Ic_szCoreSLa L left) (Yc_szCoreSLa L left) := by
  refine LoopSem.ofHead wide fun k h => ⟨_, _, run_c_szCoreSLa L left k, ?_⟩
  obtain ⟨i, n⟩ := k
  simp only at *
  with_reducible repeat' (first | apply And.intro | exact flatI | exact flatS | exact rowLens | exact ih | (intro; skip) | apply obsN | apply obsC | apply obA | apply obM | apply obB | apply svA | apply tupA | apply lcA | apply lcS | apply svC | apply liC | apply lbC | apply lsC | apply vIc | apply vBc | apply vSc | apply vLc | apply mapC | apply Hc_szCoreSLa | apply Ec_szCoreSLa | apply EW0c_szCoreSLa | apply EW1c_szCoreSLa | apply ih)
  all_goals (try simp only [std] at *)
  all_goals (try (first | with_reducible rfl | omega | assumption | (refine (decide_eq_true ?_).symm; assumption) | (refine (decide_eq_false ?_).symm; assumption) | (refine rowGet ?_; (first | omega | (simp only [std]; omega) | grind)) | (refine getC ?_ rfl; (first | omega | (simp only [std]; omega) | grind)) | (refine fill_step ?_ ?_; (first | omega | (simp only [std]; omega) | grind); (first | rfl | exact (Row.eq _).trans rfl)) | (refine fill_init ?_; (first | rfl | exact (Row.eq _).trans rfl)) | grind [drop_get, sumBy, sz, getD_mem', snocI, snocS, rowSnoc]))
theorem run_c_szCoreS (L : List Core) (left : Int) : aexec Try.prog (Option.getD (Func.body Try.f159) Code.skip) (entry [] [ll (List.map coreC L), li left] 27) [Orc.br [Orc.fin []]
 [Orc.ghost (Ghost.sel [] [0, 1, 5]), Orc.loop (List.length L - 0) (Lc_szCoreSLa L left (0, left - (↑(List.length L) : Int))) (Ic_szCoreSLa L left) [(0 ≤ sz (List.length L + sumBy
 wC L) left, AEx.exit 0, W0c_szCoreSLa L left (li (sz (List.length L + sumBy wC L) left)), [Orc.fin []]), (sz (List.length L + sumBy wC L) left = (-1 : Int), AEx.ret, W1c_szCoreSLa
 L left (li (-1 : Int)), [Orc.fin []])]]] (finK Try.prog [ResultVar.tmp 4] [] (AV.sv (li (sz (List.length L + sumBy wC L) left)))) = (List.length (List.map coreC L) ≤
 9223372036854775807 → rng IntKind.i64 (left - (↑(List.length (List.map coreC L)) : Int)) ∧ (decide (left - (↑(List.length (List.map coreC L)) : Int) < 0) = true → ObsEq [] [] ∧
 AV.sv (li (-1 : Int)) = AV.sv (li (sz (List.length L + sumBy wC L) left))) ∧ (decide (left - (↑(List.length (List.map coreC L)) : Int) < 0) = false → Tc_szCoreSLa L left (li 0)
 (li (left - (↑(List.length (List.map coreC L)) : Int))) = Lc_szCoreSLa L left (0, left - (↑(List.length L) : Int)) ∧ Ic_szCoreSLa L left (List.length L - 0) (Lc_szCoreSLa L left
 (0, left - (↑(List.length L) : Int))) ∧ LoopSem Try.prog (loopAt Try.f159 0) (Ic_szCoreSLa L left) (Yc_szCoreSLa L left) ∧ (Int.NonNeg (sz (List.length L + sumBy wC L) left - 0) →
 ObsEq [] [] ∧ AV.sv (li (sz (List.length L + sumBy wC L) left)) = AV.sv (li (sz (List.length L + sumBy wC L) left))) ∧ (sz (List.length L + sumBy wC L) left = (-1 : Int) → ObsEq
 [] [] ∧ AV.sv (li (-1 : Int)) = AV.sv (li (sz (List.length L + sumBy wC L) left))) ∧ True)) := by kernel_rfl
theorem c_szCoreS (L : List Core) (left : Int) (h0 : 0 ≤ left) (h : left ≤ 2147483647) (ih : ∀ x ∈ L, ∀ (left : Int) (h0 : 0 ≤ left) (h : left ≤ 2147483647), P_c_szCore x left)  :
 P_c_szCoreS L left := by
  refine CallOK.ofRun wide (run_c_szCoreS L left) Try.call159 Try.func159 rfl rfl rfl ?_
  with_reducible repeat' (first | apply And.intro | exact flatI | exact flatS | exact rowLens | exact ih | (intro; skip) | apply obsN | apply obsC | apply obA | apply obM | apply obB | apply svA | apply tupA | apply lcA | apply lcS | apply svC | apply liC | apply lbC | apply lsC | apply vIc | apply vBc | apply vSc | apply vLc | apply mapC | apply Hc_szCoreSLa | apply Ec_szCoreSLa | apply Sc_szCoreSLa | apply EW0c_szCoreSLa | apply EW1c_szCoreSLa)
  all_goals (try simp only [std] at *)
  all_goals (try (first | with_reducible rfl | omega | assumption | (refine (decide_eq_true ?_).symm; assumption) | (refine (decide_eq_false ?_).symm; assumption) | (refine rowGet ?_; (first | omega | (simp only [std]; omega) | grind)) | (refine getC ?_ rfl; (first | omega | (simp only [std]; omega) | grind)) | (refine fill_step ?_ ?_; (first | omega | (simp only [std]; omega) | grind); (first | rfl | exact (Row.eq _).trans rfl)) | (refine fill_init ?_; (first | rfl | exact (Row.eq _).trans rfl)) | grind [sz, snocI, snocS, rowSnoc]))
theorem run_c_szCore_s (x : Core) (left : Int) : aexec Try.prog (Option.getD (Func.body Try.f58) Code.skip) (entry [] [coreA x, li left] 24) [Orc.call [Mode.rd, Mode.rd] [] (AV.sv
 (li (sz (List.length (Core.params x)) left))), Orc.br [Orc.fin []] [Orc.call [Mode.rd, Mode.rd] [] (AV.sv (li (sz (wD (Core.datum x)) (sz (List.length (Core.params x)) left)))),
 Orc.br [Orc.fin []] [Orc.call [Mode.rd, Mode.rd] [] (AV.sv (li (sz (List.length (Core.kids x) + sumBy wC (Core.kids x)) (sz (wD (Core.datum x)) (sz (List.length (Core.params x))
 left))))), Orc.br [Orc.fin []] [Orc.fin []]]]] (finK Try.prog [ResultVar.tmp 4] [] (AV.sv (li (sz (wC x) left)))) = (P_c_szIntS (Core.params x) left ∧ (decide (sz (List.length
 (Core.params x)) left < 0) = true → ObsEq [] [] ∧ AV.sv (li (-1 : Int)) = AV.sv (li (sz (wC x) left))) ∧ (decide (sz (List.length (Core.params x)) left < 0) = false → P_c_szDatum
 (Core.datum x) (sz (List.length (Core.params x)) left) ∧ (decide (sz (wD (Core.datum x)) (sz (List.length (Core.params x)) left) < 0) = true → ObsEq [] [] ∧ AV.sv (li (-1 : Int))
 = AV.sv (li (sz (wC x) left))) ∧ (decide (sz (wD (Core.datum x)) (sz (List.length (Core.params x)) left) < 0) = false → P_c_szCoreS (Core.kids x) (sz (wD (Core.datum x)) (sz
 (List.length (Core.params x)) left)) ∧ (decide (sz (List.length (Core.kids x) + sumBy wC (Core.kids x)) (sz (wD (Core.datum x)) (sz (List.length (Core.params x)) left)) < 0) =
 true → ObsEq [] [] ∧ AV.sv (li (-1 : Int)) = AV.sv (li (sz (wC x) left))) ∧ (decide (sz (List.length (Core.kids x) + sumBy wC (Core.kids x)) (sz (wD (Core.datum x)) (sz
 (List.length (Core.params x)) left)) < 0) = false → ObsEq [] [] ∧ AV.sv (li (sz (List.length (Core.kids x) + sumBy wC (Core.kids x)) (sz (wD (Core.datum x)) (sz (List.length
 (Core.params x)) left)))) = AV.sv (li (sz (wC x) left)))))) := by kernel_rfl
theorem c_szCore_s (x : Core) (left : Int) (h0 : 0 ≤ left) (h : left ≤ 2147483647) (ih : ∀ z ∈ x.kids, ∀ (left : Int) (h0 : 0 ≤ left) (h : left ≤ 2147483647), P_c_szCore z left)  :
 P_c_szCore x left := by
  refine CallOK.ofRun wide (run_c_szCore_s x left) Try.call58 Try.func58 rfl rfl rfl ?_
  with_reducible repeat' (first | apply And.intro | exact flatI | exact flatS | exact rowLens | exact ih | (intro; skip) | apply obsN | apply obsC | apply obA | apply obM | apply obB | apply svA | apply tupA | apply lcA | apply lcS | apply svC | apply liC | apply lbC | apply lsC | apply vIc | apply vBc | apply vSc | apply vLc | apply mapC | apply c_szIntS | apply c_szDatum | apply c_szCoreS | apply ih)
  all_goals (try simp only [std] at *)
  all_goals (try (first | with_reducible rfl | omega | assumption | (refine (decide_eq_true ?_).symm; assumption) | (refine (decide_eq_false ?_).symm; assumption) | (refine rowGet ?_; (first | omega | (simp only [std]; omega) | grind)) | (refine getC ?_ rfl; (first | omega | (simp only [std]; omega) | grind)) | (refine fill_step ?_ ?_; (first | omega | (simp only [std]; omega) | grind); (first | rfl | exact (Row.eq _).trans rfl)) | (refine fill_init ?_; (first | rfl | exact (Row.eq _).trans rfl)) | grind [wC_eq, sz, wS, snocI, snocS, rowSnoc]))
theorem c_szCore (x : Core) : ∀ (left : Int) (h0 : 0 ≤ left) (h : left ≤ 2147483647), P_c_szCore x left := Core.ind (P := fun x => ∀ (left : Int) (h0 : 0 ≤ left) (h : left ≤ 2147483647), P_c_szCore x left) (fun x ih left h0 h => c_szCore_s x left h0 h ih) x
abbrev P_c_szUnit (x : Unit) (left : Int) : Prop := CallOK Try.prog 72 [] [unitA x, li left] [] (.sv (li (sz (wU x) left)))
theorem run_c_szUnit (x : Unit) (left : Int) : aexec Try.prog (Option.getD (Func.body Try.f72) Code.skip) (entry [] [unitA x, li left] 25) [Orc.br [Orc.fin []] [Orc.call [Mode.rd,
 Mode.rd] [] (AV.sv (li (sz (List.length (Unit.globals x)) (left - (↑(List.length (Array.toList (ByteArray.data (Unit.name x)))) : Int))))), Orc.br [Orc.fin []] [Orc.call [Mode.rd,
 Mode.rd] [] (AV.sv (li (sz (wC (Unit.body x)) (sz (List.length (Unit.globals x)) (left - (↑(List.length (Array.toList (ByteArray.data (Unit.name x)))) : Int)))))), Orc.br [Orc.fin
 []] [Orc.fin []]]]] (finK Try.prog [ResultVar.tmp 4] [] (AV.sv (li (sz (wU x) left)))) = (List.length (Array.toList (ByteArray.data (Unit.name x))) ≤ 9223372036854775807 → rng
 IntKind.i64 (left - (↑(List.length (Array.toList (ByteArray.data (Unit.name x)))) : Int)) ∧ (decide (left - (↑(List.length (Array.toList (ByteArray.data (Unit.name x)))) : Int) <
 0) = true → ObsEq [] [] ∧ AV.sv (li (-1 : Int)) = AV.sv (li (sz (wU x) left))) ∧ (decide (left - (↑(List.length (Array.toList (ByteArray.data (Unit.name x)))) : Int) < 0) = false
 → P_c_szIntS (Unit.globals x) (left - (↑(List.length (Array.toList (ByteArray.data (Unit.name x)))) : Int)) ∧ (decide (sz (List.length (Unit.globals x)) (left - (↑(List.length
 (Array.toList (ByteArray.data (Unit.name x)))) : Int)) < 0) = true → ObsEq [] [] ∧ AV.sv (li (-1 : Int)) = AV.sv (li (sz (wU x) left))) ∧ (decide (sz (List.length (Unit.globals
 x)) (left - (↑(List.length (Array.toList (ByteArray.data (Unit.name x)))) : Int)) < 0) = false → P_c_szCore (Unit.body x) (sz (List.length (Unit.globals x)) (left - (↑(List.length
 (Array.toList (ByteArray.data (Unit.name x)))) : Int))) ∧ (decide (sz (wC (Unit.body x)) (sz (List.length (Unit.globals x)) (left - (↑(List.length (Array.toList (ByteArray.data
 (Unit.name x)))) : Int))) < 0) = true → ObsEq [] [] ∧ AV.sv (li (-1 : Int)) = AV.sv (li (sz (wU x) left))) ∧ (decide (sz (wC (Unit.body x)) (sz (List.length (Unit.globals x))
 (left - (↑(List.length (Array.toList (ByteArray.data (Unit.name x)))) : Int))) < 0) = false → ObsEq [] [] ∧ AV.sv (li (sz (wC (Unit.body x)) (sz (List.length (Unit.globals x))
 (left - (↑(List.length (Array.toList (ByteArray.data (Unit.name x)))) : Int))))) = AV.sv (li (sz (wU x) left)))))) := by kernel_rfl
theorem c_szUnit (x : Unit) (left : Int) (h0 : 0 ≤ left) (h : left ≤ 2147483647)  : P_c_szUnit x left := by
  refine CallOK.ofRun wide (run_c_szUnit x left) Try.call72 Try.func72 rfl rfl rfl ?_
  with_reducible repeat' (first | apply And.intro | exact flatI | exact flatS | exact rowLens | (intro; skip) | apply obsN | apply obsC | apply obA | apply obM | apply obB | apply svA | apply tupA | apply lcA | apply lcS | apply svC | apply liC | apply lbC | apply lsC | apply vIc | apply vBc | apply vSc | apply vLc | apply mapC | apply c_szIntS | apply c_szCore)
  all_goals (try simp only [std] at *)
  all_goals (try (first | with_reducible rfl | omega | assumption | (refine (decide_eq_true ?_).symm; assumption) | (refine (decide_eq_false ?_).symm; assumption) | (refine rowGet ?_; (first | omega | (simp only [std]; omega) | grind)) | (refine getC ?_ rfl; (first | omega | (simp only [std]; omega) | grind)) | (refine fill_step ?_ ?_; (first | omega | (simp only [std]; omega) | grind); (first | rfl | exact (Row.eq _).trans rfl)) | (refine fill_init ?_; (first | rfl | exact (Row.eq _).trans rfl)) | grind [wU_eq, sz, wS, snocI, snocS, rowSnoc]))
abbrev P_c_szUnitS (L : List Unit) (left : Int) : Prop := CallOK Try.prog 24 [] [ll (L.map unitC), li left] [] (.sv (li (sz (L.length + sumBy wU L) left)))
def Tc_szUnitSLa (L : List Unit) (left : Int) (x0 : SV) (x1 : SV) : St := St.mk (regsOf 27 [(0, AV.sv (ll (List.map unitC L))), (1, AV.sv x1), (5, AV.sv x0)]) [] 0 
def Lc_szUnitSLa (L : List Unit) (left : Int) (k : Nat × Int) : St := Tc_szUnitSLa L left (li (↑(Prod.fst k) : Int)) (li (Prod.snd k)) 
def Ic_szUnitSLa (L : List Unit) (left : Int) : Nat → St → Prop := Head (Lc_szUnitSLa L left) (fun k => Prod.fst k ≤ List.length L ∧ List.length L ≤ 9223372036854775807 ∧ 0 ≤
 Prod.snd k ∧ Prod.snd k ≤ left ∧ sz (sumBy wU (List.drop (Prod.fst k) L)) (Prod.snd k) = sz (List.length L + sumBy wU L) left) fun k => List.length L - Prod.fst k 
def W0c_szUnitSLa (L : List Unit) (left : Int) (x0 : SV) : St := St.mk (regsOf 27 [(1, AV.sv x0)]) [] 0 
def W1c_szUnitSLa (L : List Unit) (left : Int) (x0 : SV) : St := St.mk (regsOf 27 [(4, AV.sv x0)]) [] 0 
def Yc_szUnitSLa (L : List Unit) (left : Int) : List (Prop × AEx × St) := [(0 ≤ sz (List.length L + sumBy wU L) left, AEx.exit 0, W0c_szUnitSLa L left (li (sz (List.length L +
 sumBy wU L) left))), (sz (List.length L + sumBy wU L) left = (-1 : Int), AEx.ret, W1c_szUnitSLa L left (li (-1 : Int)))]
theorem Hc_szUnitSLa {L : List Unit} {left : Int} {k : Nat × Int} {m : Nat} (h : (fun k => Prod.fst k ≤ List.length L ∧ List.length L ≤ 9223372036854775807 ∧ 0 ≤ Prod.snd k ∧
 Prod.snd k ≤ left ∧ sz (sumBy wU (List.drop (Prod.fst k) L)) (Prod.snd k) = sz (List.length L + sumBy wU L) left) k) (hm : (fun k => List.length L - Prod.fst k) k = m) :
 Ic_szUnitSLa L left m (Lc_szUnitSLa L left k) := hm ▸ Head.mk h
theorem Ec_szUnitSLa {L : List Unit} {left : Int} {k : Nat × Int} {x0 : SV} {x1 : SV} (h0 : x0 = (li (↑(Prod.fst k) : Int))) (h1 : x1 = (li (Prod.snd k))) : Tc_szUnitSLa L left x0
 x1 = Lc_szUnitSLa L left k := by
  rw [h0, h1]
  rfl
theorem EW0c_szUnitSLa {L : List Unit} {left : Int} {x0 y0 : SV} (h0 : x0 = y0) : W0c_szUnitSLa L left x0 = W0c_szUnitSLa L left y0 := by rw [h0]
theorem EW1c_szUnitSLa {L : List Unit} {left : Int} {x0 y0 : SV} (h0 : x0 = y0) : W1c_szUnitSLa L left x0 = W1c_szUnitSLa L left y0 := by rw [h0]
theorem run_c_szUnitSLa (L : List Unit) (left : Int) (k : Nat × Int) : aexec Try.prog (loopAt Try.f24 0) (Lc_szUnitSLa L left k) [Orc.br [Orc.cells (unitF (List.getD L (Prod.fst k)
 default)), Orc.call [Mode.rd, Mode.rd] [] (AV.sv (li (sz (wU (List.getD L (Prod.fst k) default)) (Prod.snd k)))), Orc.br [Orc.ghost (Ghost.sel [] [4]), Orc.out 1] [Orc.ghost
 (Ghost.sel [] [0, 1, 5]), Orc.goto (List.length L - (Prod.fst k + 1)) (Lc_szUnitSLa L left (Prod.fst k + 1, sz (wU (List.getD L (Prod.fst k) default)) (Prod.snd k)))]] [Orc.ghost
 (Ghost.sel [] [1]), Orc.out 0]] (loopK (Ic_szUnitSLa L left) (Yc_szUnitSLa L left) (List.length L - Prod.fst k)) = (List.length (List.map unitC L) ≤ 9223372036854775807 → (decide
 ((↑(Prod.fst k) : Int) < (↑(List.length (List.map unitC L)) : Int)) = true → (0 ≤ (↑(Prod.fst k) : Int) ∧ (List.map unitC L)[Int.toNat (↑(Prod.fst k) : Int)]? = some (unitF
 (List.getD L (Prod.fst k) default))) ∧ P_c_szUnit (List.getD L (Prod.fst k) default) (Prod.snd k) ∧ (decide (sz (wU (List.getD L (Prod.fst k) default)) (Prod.snd k) < 0) = true →
 sz (List.length L + sumBy wU L) left = (-1 : Int) ∧ W1c_szUnitSLa L left (li (-1 : Int)) = W1c_szUnitSLa L left (li (-1 : Int))) ∧ (decide (sz (wU (List.getD L (Prod.fst k)
 default)) (Prod.snd k) < 0) = false → rng IntKind.i64 ((↑(Prod.fst k) : Int) + 1) ∧ List.length L - (Prod.fst k + 1) < List.length L - Prod.fst k ∧ Tc_szUnitSLa L left (li
 ((↑(Prod.fst k) : Int) + 1)) (li (sz (wU (List.getD L (Prod.fst k) default)) (Prod.snd k))) = Lc_szUnitSLa L left (Prod.fst k + 1, sz (wU (List.getD L (Prod.fst k) default))
 (Prod.snd k)) ∧ Ic_szUnitSLa L left (List.length L - (Prod.fst k + 1)) (Lc_szUnitSLa L left (Prod.fst k + 1, sz (wU (List.getD L (Prod.fst k) default)) (Prod.snd k))))) ∧ (decide
 ((↑(Prod.fst k) : Int) < (↑(List.length (List.map unitC L)) : Int)) = false → 0 ≤ sz (List.length L + sumBy wU L) left ∧ W0c_szUnitSLa L left (li (Prod.snd k)) = W0c_szUnitSLa L
 left (li (sz (List.length L + sumBy wU L) left)))) := by kernel_rfl
theorem Sc_szUnitSLa (L : List Unit) (left : Int) (h0 : 0 ≤ left) (h : left ≤ 2147483647)  : LoopSem Try.prog (loopAt Try.f24 0) (Ic_szUnitSLa L left) (Yc_szUnitSLa L left) := by
  refine LoopSem.ofHead wide fun k h => ⟨_, _, run_c_szUnitSLa L left k, ?_⟩
  obtain ⟨i, n⟩ := k
  simp only at *
  with_reducible repeat' (first | apply And.intro | exact flatI | exact flatS | exact rowLens | (intro; skip) | apply obsN | apply obsC | apply obA | apply obM | apply obB | apply svA | apply tupA | apply lcA | apply lcS | apply svC | apply liC | apply lbC | apply lsC | apply vIc | apply vBc | apply vSc | apply vLc | apply mapC | apply Hc_szUnitSLa | apply Ec_szUnitSLa | apply EW0c_szUnitSLa | apply EW1c_szUnitSLa | apply c_szUnit)
  all_goals (try simp only [std] at *)
  all_goals (try (first | with_reducible rfl | omega | assumption | (refine (decide_eq_true ?_).symm; assumption) | (refine (decide_eq_false ?_).symm; assumption) | (refine rowGet ?_; (first | omega | (simp only [std]; omega) | grind)) | (refine getC ?_ rfl; (first | omega | (simp only [std]; omega) | grind)) | (refine fill_step ?_ ?_; (first | omega | (simp only [std]; omega) | grind); (first | rfl | exact (Row.eq _).trans rfl)) | (refine fill_init ?_; (first | rfl | exact (Row.eq _).trans rfl)) | grind [drop_get, sumBy, sz, getD_mem', snocI, snocS, rowSnoc]))
theorem run_c_szUnitS (L : List Unit) (left : Int) : aexec Try.prog (Option.getD (Func.body Try.f24) Code.skip) (entry [] [ll (List.map unitC L), li left] 27) [Orc.br [Orc.fin []]
 [Orc.ghost (Ghost.sel [] [0, 1, 5]), Orc.loop (List.length L - 0) (Lc_szUnitSLa L left (0, left - (↑(List.length L) : Int))) (Ic_szUnitSLa L left) [(0 ≤ sz (List.length L + sumBy
 wU L) left, AEx.exit 0, W0c_szUnitSLa L left (li (sz (List.length L + sumBy wU L) left)), [Orc.fin []]), (sz (List.length L + sumBy wU L) left = (-1 : Int), AEx.ret, W1c_szUnitSLa
 L left (li (-1 : Int)), [Orc.fin []])]]] (finK Try.prog [ResultVar.tmp 4] [] (AV.sv (li (sz (List.length L + sumBy wU L) left)))) = (List.length (List.map unitC L) ≤
 9223372036854775807 → rng IntKind.i64 (left - (↑(List.length (List.map unitC L)) : Int)) ∧ (decide (left - (↑(List.length (List.map unitC L)) : Int) < 0) = true → ObsEq [] [] ∧
 AV.sv (li (-1 : Int)) = AV.sv (li (sz (List.length L + sumBy wU L) left))) ∧ (decide (left - (↑(List.length (List.map unitC L)) : Int) < 0) = false → Tc_szUnitSLa L left (li 0)
 (li (left - (↑(List.length (List.map unitC L)) : Int))) = Lc_szUnitSLa L left (0, left - (↑(List.length L) : Int)) ∧ Ic_szUnitSLa L left (List.length L - 0) (Lc_szUnitSLa L left
 (0, left - (↑(List.length L) : Int))) ∧ LoopSem Try.prog (loopAt Try.f24 0) (Ic_szUnitSLa L left) (Yc_szUnitSLa L left) ∧ (Int.NonNeg (sz (List.length L + sumBy wU L) left - 0) →
 ObsEq [] [] ∧ AV.sv (li (sz (List.length L + sumBy wU L) left)) = AV.sv (li (sz (List.length L + sumBy wU L) left))) ∧ (sz (List.length L + sumBy wU L) left = (-1 : Int) → ObsEq
 [] [] ∧ AV.sv (li (-1 : Int)) = AV.sv (li (sz (List.length L + sumBy wU L) left))) ∧ True)) := by kernel_rfl
theorem c_szUnitS (L : List Unit) (left : Int) (h0 : 0 ≤ left) (h : left ≤ 2147483647)  : P_c_szUnitS L left := by
  refine CallOK.ofRun wide (run_c_szUnitS L left) Try.call24 Try.func24 rfl rfl rfl ?_
  with_reducible repeat' (first | apply And.intro | exact flatI | exact flatS | exact rowLens | (intro; skip) | apply obsN | apply obsC | apply obA | apply obM | apply obB | apply svA | apply tupA | apply lcA | apply lcS | apply svC | apply liC | apply lbC | apply lsC | apply vIc | apply vBc | apply vSc | apply vLc | apply mapC | apply Hc_szUnitSLa | apply Ec_szUnitSLa | apply Sc_szUnitSLa | apply EW0c_szUnitSLa | apply EW1c_szUnitSLa | apply c_szUnit)
  all_goals (try simp only [std] at *)
  all_goals (try (first | with_reducible rfl | omega | assumption | (refine (decide_eq_true ?_).symm; assumption) | (refine (decide_eq_false ?_).symm; assumption) | (refine rowGet ?_; (first | omega | (simp only [std]; omega) | grind)) | (refine getC ?_ rfl; (first | omega | (simp only [std]; omega) | grind)) | (refine fill_step ?_ ?_; (first | omega | (simp only [std]; omega) | grind); (first | rfl | exact (Row.eq _).trans rfl)) | (refine fill_init ?_; (first | rfl | exact (Row.eq _).trans rfl)) | grind [sz, snocI, snocS, rowSnoc]))
end Go.Proofs.Ytehpjofddjmbpaa
end
section
namespace Go.Proofs.Ytehpjofddjmbpaa
open Go Go.Proofs.Ytehpjofddjmbpaa.Ab
set_option linter.unusedVariables false
set_option linter.unusedSimpArgs false
set_option maxHeartbeats 4000000
abbrev P_c_toIntS (L : List Int) : Prop := CallOK Try.prog 61 [] [ll (L.map intC)] [.arr true 1 (L.map intC)] (.sv (.one (.ref 0)))
def Tc_toIntSLa (L : List Int) (x0 : SV) (x1 : Ob) : St := St.mk (regsOf 22 [(0, AV.sv (ll (List.map intC L))), (3, AV.sv (SV.one (AC.ref 0))), (4, AV.sv x0)]) [x1] 0 
def Lc_toIntSLa (L : List Int) (k : Nat) : St := Tc_toIntSLa L (li (↑k : Int)) (Ob.arr true 1 (List.map intC (fillTo L k))) 
def Ic_toIntSLa (L : List Int) : Nat → St → Prop := Head (Lc_toIntSLa L) (fun k => k ≤ List.length L ∧ List.length L ≤ 9223372036854775807) fun k => List.length L - k 
def W0c_toIntSLa (L : List Int) (x0 : Ob) : St := St.mk (regsOf 22 [(3, AV.sv (SV.one (AC.ref 0)))]) [x0] 0 
def Yc_toIntSLa (L : List Int) : List (Prop × AEx × St) := [(True, AEx.exit 0, W0c_toIntSLa L (Ob.arr true 1 (List.map intC L)))]
theorem Hc_toIntSLa {L : List Int} {k : Nat} {m : Nat} (h : (fun k => k ≤ List.length L ∧ List.length L ≤ 9223372036854775807) k) (hm : (fun k => List.length L - k) k = m) :
 Ic_toIntSLa L m (Lc_toIntSLa L k) := hm ▸ Head.mk h
theorem Ec_toIntSLa {L : List Int} {k : Nat} {x0 : SV} {x1 : Ob} (h0 : x0 = (li (↑k : Int))) (h1 : x1 = (Ob.arr true 1 (List.map intC (fillTo L k)))) : Tc_toIntSLa L x0 x1 =
 Lc_toIntSLa L k := by
  rw [h0, h1]
  rfl
theorem EW0c_toIntSLa {L : List Int} {x0 y0 : Ob} (h0 : x0 = y0) : W0c_toIntSLa L x0 = W0c_toIntSLa L y0 := by rw [h0]
theorem run_c_toIntSLa (L : List Int) (k : Nat) : aexec Try.prog (loopAt Try.f61 0) (Lc_toIntSLa L k) [Orc.br [Orc.cells (intC (List.getD L k default)), Orc.cells (intC (List.getD
 (fillTo L k) (Int.toNat (↑k : Int)) default)), Orc.ghost (Ghost.sel [0] [0, 3, 4]), Orc.goto (List.length L - (k + 1)) (Lc_toIntSLa L (k + 1))] [Orc.ghost (Ghost.sel [0] [3]),
 Orc.out 0]] (loopK (Ic_toIntSLa L) (Yc_toIntSLa L) (List.length L - k)) = (List.length (List.map intC L) ≤ 9223372036854775807 → (decide ((↑k : Int) < (↑(List.length (List.map
 intC L)) : Int)) = true → (0 ≤ (↑k : Int) ∧ (List.map intC L)[Int.toNat (↑k : Int)]? = some [cI (List.getD L k 0)]) ∧ (0 ≤ (↑k : Int) ∧ Int.toNat (↑k : Int) < List.length
 (List.map intC (fillTo L k))) ∧ (List.map intC (fillTo L k))[Int.toNat (↑k : Int)]? = some [cI (List.getD (fillTo L k) (Int.toNat (↑k : Int)) 0)] ∧ rng IntKind.i64 ((↑k : Int) +
 1) ∧ List.length L - (k + 1) < List.length L - k ∧ Tc_toIntSLa L (li ((↑k : Int) + 1)) (Ob.arr true 1 (List.set (List.map intC (fillTo L k)) (Int.toNat (↑k : Int)) [cI (List.getD
 L k 0)])) = Lc_toIntSLa L (k + 1) ∧ Ic_toIntSLa L (List.length L - (k + 1)) (Lc_toIntSLa L (k + 1))) ∧ (decide ((↑k : Int) < (↑(List.length (List.map intC L)) : Int)) = false →
 True ∧ W0c_toIntSLa L (Ob.arr true 1 (List.map intC (fillTo L k))) = W0c_toIntSLa L (Ob.arr true 1 (List.map intC L)))) := by kernel_rfl
theorem Sc_toIntSLa (L : List Int) (h : List.length L ≤ 1048576)  : LoopSem Try.prog (loopAt Try.f61 0) (Ic_toIntSLa L) (Yc_toIntSLa L) := by
  refine LoopSem.ofHead wide fun k h => ⟨_, _, run_c_toIntSLa L k, ?_⟩
  with_reducible repeat' (first | apply And.intro | exact flatI | exact flatS | exact rowLens | (intro; skip) | apply obsN | apply obsC | apply obA | apply obM | apply obB | apply svA | apply tupA | apply lcA | apply lcS | apply svC | apply liC | apply lbC | apply lsC | apply vIc | apply vBc | apply vSc | apply vLc | apply mapC | apply Hc_toIntSLa | apply Ec_toIntSLa | apply EW0c_toIntSLa)
  all_goals (try simp only [std] at *)
  all_goals (try (first | with_reducible rfl | omega | assumption | (refine (decide_eq_true ?_).symm; assumption) | (refine (decide_eq_false ?_).symm; assumption) | (refine rowGet ?_; (first | omega | (simp only [std]; omega) | grind)) | (refine getC ?_ rfl; (first | omega | (simp only [std]; omega) | grind)) | (refine fill_step ?_ ?_; (first | omega | (simp only [std]; omega) | grind); (first | rfl | exact (Row.eq _).trans rfl)) | (refine fill_init ?_; (first | rfl | exact (Row.eq _).trans rfl)) | grind [fillTo_all, snocI, snocS, rowSnoc]))
theorem run_c_toIntS (L : List Int) : aexec Try.prog (Option.getD (Func.body Try.f61) Code.skip) (entry [] [ll (List.map intC L)] 22) [Orc.ghost (Ghost.sel [0] [0, 3, 4]), Orc.loop
 (List.length L - 0) (Lc_toIntSLa L 0) (Ic_toIntSLa L) [(True, AEx.exit 0, W0c_toIntSLa L (Ob.arr true 1 (List.map intC L)), [Orc.fin [0]])]] (finK Try.prog [ResultVar.tmp 2]
 [Ob.arr true 1 (List.map intC L)] (AV.sv (SV.one (AC.ref 0)))) = (List.length (List.map intC L) ≤ 9223372036854775807 → (0 ≤ (↑(List.length (List.map intC L)) : Int) ∧ 8 *
 Int.toNat (↑(List.length (List.map intC L)) : Int) ≤ 281474976710656) ∧ Tc_toIntSLa L (li 0) (Ob.arr true 1 (List.replicate (Int.toNat (↑(List.length (List.map intC L)) : Int))
 [cI 0])) = Lc_toIntSLa L 0 ∧ Ic_toIntSLa L (List.length L - 0) (Lc_toIntSLa L 0) ∧ LoopSem Try.prog (loopAt Try.f61 0) (Ic_toIntSLa L) (Yc_toIntSLa L) ∧ (True → ObsEq [Ob.arr true
 1 (List.map intC L)] [Ob.arr true 1 (List.map intC L)] ∧ AV.sv (SV.one (AC.ref 0)) = AV.sv (SV.one (AC.ref 0))) ∧ True) := by kernel_rfl
theorem c_toIntS (L : List Int) (h : L.length ≤ 1048576)  : P_c_toIntS L := by
  refine CallOK.ofRun wide (run_c_toIntS L) Try.call61 Try.func61 rfl rfl rfl ?_
  with_reducible repeat' (first | apply And.intro | exact flatI | exact flatS | exact rowLens | (intro; skip) | apply obsN | apply obsC | apply obA | apply obM | apply obB | apply svA | apply tupA | apply lcA | apply lcS | apply svC | apply liC | apply lbC | apply lsC | apply vIc | apply vBc | apply vSc | apply vLc | apply mapC | apply Hc_toIntSLa | apply Ec_toIntSLa | apply Sc_toIntSLa | apply EW0c_toIntSLa)
  all_goals (try simp only [std] at *)
  all_goals (try (first | with_reducible rfl | omega | assumption | (refine (decide_eq_true ?_).symm; assumption) | (refine (decide_eq_false ?_).symm; assumption) | (refine rowGet ?_; (first | omega | (simp only [std]; omega) | grind)) | (refine getC ?_ rfl; (first | omega | (simp only [std]; omega) | grind)) | (refine fill_step ?_ ?_; (first | omega | (simp only [std]; omega) | grind); (first | rfl | exact (Row.eq _).trans rfl)) | (refine fill_init ?_; (first | rfl | exact (Row.eq _).trans rfl)) | grind [snocI, snocS, rowSnoc]))
abbrev P_c_toDatumS (L : List Datum) : Prop := CallOK Try.prog 125 [] [ll (L.map datumC)] [.arr true 4 (L.map datumC)] (.sv (.one (.ref 0)))
abbrev P_c_toDatum (x : Datum) : Prop := CallOK Try.prog 44 [] [datumA x] (datumO x) (.sv (datumR x 0))
def Tc_toDatumSLa (L : List Datum) (x0 : SV) (x1 : Ob) : St := St.mk (regsOf 23 [(0, AV.sv (ll (List.map datumC L))), (3, AV.sv (SV.one (AC.ref 0))), (4, AV.sv x0)]) [x1] 0 
def Lc_toDatumSLa (L : List Datum) (k : Nat) : St := Tc_toDatumSLa L (li (↑k : Int)) (Ob.arr true 4 (List.map datumC (fillTo L k))) 
def Ic_toDatumSLa (L : List Datum) : Nat → St → Prop := Head (Lc_toDatumSLa L) (fun k => k ≤ List.length L ∧ List.length L ≤ 9223372036854775807) fun k => List.length L - k 
def W0c_toDatumSLa (L : List Datum) (x0 : Ob) : St := St.mk (regsOf 23 [(3, AV.sv (SV.one (AC.ref 0)))]) [x0] 0 
def Yc_toDatumSLa (L : List Datum) : List (Prop × AEx × St) := [(True, AEx.exit 0, W0c_toDatumSLa L (Ob.arr true 4 (List.map datumC L)))]
theorem Hc_toDatumSLa {L : List Datum} {k : Nat} {m : Nat} (h : (fun k => k ≤ List.length L ∧ List.length L ≤ 9223372036854775807) k) (hm : (fun k => List.length L - k) k = m) :
 Ic_toDatumSLa L m (Lc_toDatumSLa L k) := hm ▸ Head.mk h
theorem Ec_toDatumSLa {L : List Datum} {k : Nat} {x0 : SV} {x1 : Ob} (h0 : x0 = (li (↑k : Int))) (h1 : x1 = (Ob.arr true 4 (List.map datumC (fillTo L k)))) : Tc_toDatumSLa L x0 x1
 = Lc_toDatumSLa L k := by
  rw [h0, h1]
  rfl
theorem EW0c_toDatumSLa {L : List Datum} {x0 y0 : Ob} (h0 : x0 = y0) : W0c_toDatumSLa L x0 = W0c_toDatumSLa L y0 := by rw [h0]
theorem run_c_toDatumSLa (L : List Datum) (k : Nat) : aexec Try.prog (loopAt Try.f125 0) (Lc_toDatumSLa L k) [Orc.br [Orc.cells (datumF (List.getD L k default)), Orc.call [Mode.rd]
 (datumO (List.getD L k default)) (AV.sv (datumR (List.getD L k default) 0)), Orc.cells (datumF (List.getD (fillTo L k) (Int.toNat (↑k : Int)) default)), Orc.ghost (Ghost.sel [0]
 [0, 3, 4]), Orc.goto (List.length L - (k + 1)) (Lc_toDatumSLa L (k + 1))] [Orc.ghost (Ghost.sel [0] [3]), Orc.out 0]] (loopK (Ic_toDatumSLa L) (Yc_toDatumSLa L) (List.length L -
 k)) = (List.length (List.map datumC L) ≤ 9223372036854775807 → (decide ((↑k : Int) < (↑(List.length (List.map datumC L)) : Int)) = true → (0 ≤ (↑k : Int) ∧ (List.map datumC
 L)[Int.toNat (↑k : Int)]? = some (datumF (List.getD L k default))) ∧ P_c_toDatum (List.getD L k default) ∧ (0 ≤ (↑k : Int) ∧ Int.toNat (↑k : Int) < List.length (List.map datumC
 (fillTo L k))) ∧ (List.map datumC (fillTo L k))[Int.toNat (↑k : Int)]? = some (datumF (List.getD (fillTo L k) (Int.toNat (↑k : Int)) default)) ∧ rng IntKind.i64 ((↑k : Int) + 1) ∧
 List.length L - (k + 1) < List.length L - k ∧ Tc_toDatumSLa L (li ((↑k : Int) + 1)) (Ob.arr true 4 (List.set (List.map datumC (fillTo L k)) (Int.toNat (↑k : Int)) (datumF
 (List.getD L k default)))) = Lc_toDatumSLa L (k + 1) ∧ Ic_toDatumSLa L (List.length L - (k + 1)) (Lc_toDatumSLa L (k + 1))) ∧ (decide ((↑k : Int) < (↑(List.length (List.map datumC
 L)) : Int)) = false → True ∧ W0c_toDatumSLa L (Ob.arr true 4 (List.map datumC (fillTo L k))) = W0c_toDatumSLa L (Ob.arr true 4 (List.map datumC L)))) := by kernel_rfl
theorem Sc_toDatumSLa (L : List Datum) (h : List.length L + sumBy wD L ≤ 1048576) (ih : ∀ (x : Datum), x ∈ L → wD x ≤ 1048576 → P_c_toDatum x)  : LoopSem Try.prog (loopAt Try.f125
 0) (Ic_toDatumSLa L) (Yc_toDatumSLa L) := by
  refine LoopSem.ofHead wide fun k h => ⟨_, _, run_c_toDatumSLa L k, ?_⟩
  with_reducible repeat' (first | apply And.intro | exact flatI | exact flatS | exact rowLens | exact ih | (intro; skip) | apply obsN | apply obsC | apply obA | apply obM | apply obB | apply svA | apply tupA | apply lcA | apply lcS | apply svC | apply liC | apply lbC | apply lsC | apply vIc | apply vBc | apply vSc | apply vLc | apply mapC | apply Hc_toDatumSLa | apply Ec_toDatumSLa | apply EW0c_toDatumSLa | apply ih)
  all_goals (try simp only [std] at *)
  all_goals (try (first | with_reducible rfl | omega | assumption | (refine (decide_eq_true ?_).symm; assumption) | (refine (decide_eq_false ?_).symm; assumption) | (refine rowGet ?_; (first | omega | (simp only [std]; omega) | grind)) | (refine getC ?_ rfl; (first | omega | (simp only [std]; omega) | grind)) | (refine fill_step ?_ ?_; (first | omega | (simp only [std]; omega) | grind); (first | rfl | exact (Row.eq _).trans rfl)) | (refine fill_init ?_; (first | rfl | exact (Row.eq _).trans rfl)) | grind [fillTo_all, getD_mem', sumBy_mem, snocI, snocS, rowSnoc]))
theorem run_c_toDatumS (L : List Datum) : aexec Try.prog (Option.getD (Func.body Try.f125) Code.skip) (entry [] [ll (List.map datumC L)] 23) [Orc.ghost (Ghost.sel [0] [0, 3, 4]),
 Orc.loop (List.length L - 0) (Lc_toDatumSLa L 0) (Ic_toDatumSLa L) [(True, AEx.exit 0, W0c_toDatumSLa L (Ob.arr true 4 (List.map datumC L)), [Orc.fin [0]])]] (finK Try.prog
 [ResultVar.tmp 2] [Ob.arr true 4 (List.map datumC L)] (AV.sv (SV.one (AC.ref 0)))) = (List.length (List.map datumC L) ≤ 9223372036854775807 → (0 ≤ (↑(List.length (List.map datumC
 L)) : Int) ∧ 56 * Int.toNat (↑(List.length (List.map datumC L)) : Int) ≤ 281474976710656) ∧ Tc_toDatumSLa L (li 0) (Ob.arr true 4 (List.replicate (Int.toNat (↑(List.length
 (List.map datumC L)) : Int)) [cI 0, cI 0, cS (ByteArray.mk #[]), Cell.list []])) = Lc_toDatumSLa L 0 ∧ Ic_toDatumSLa L (List.length L - 0) (Lc_toDatumSLa L 0) ∧ LoopSem Try.prog
 (loopAt Try.f125 0) (Ic_toDatumSLa L) (Yc_toDatumSLa L) ∧ (True → ObsEq [Ob.arr true 4 (List.map datumC L)] [Ob.arr true 4 (List.map datumC L)] ∧ AV.sv (SV.one (AC.ref 0)) = AV.sv
 (SV.one (AC.ref 0))) ∧ True) := by kernel_rfl
theorem c_toDatumS (L : List Datum) (h : L.length + sumBy wD L ≤ 1048576) (ih : ∀ x ∈ L, ∀ (h : wD x ≤ 1048576), P_c_toDatum x)  : P_c_toDatumS L := by
  refine CallOK.ofRun wide (run_c_toDatumS L) Try.call125 Try.func125 rfl rfl rfl ?_
  with_reducible repeat' (first | apply And.intro | exact flatI | exact flatS | exact rowLens | exact ih | (intro; skip) | apply obsN | apply obsC | apply obA | apply obM | apply obB | apply svA | apply tupA | apply lcA | apply lcS | apply svC | apply liC | apply lbC | apply lsC | apply vIc | apply vBc | apply vSc | apply vLc | apply mapC | apply Hc_toDatumSLa | apply Ec_toDatumSLa | apply Sc_toDatumSLa | apply EW0c_toDatumSLa)
  all_goals (try simp only [std] at *)
  all_goals (try (first | with_reducible rfl | omega | assumption | (refine (decide_eq_true ?_).symm; assumption) | (refine (decide_eq_false ?_).symm; assumption) | (refine rowGet ?_; (first | omega | (simp only [std]; omega) | grind)) | (refine getC ?_ rfl; (first | omega | (simp only [std]; omega) | grind)) | (refine fill_step ?_ ?_; (first | omega | (simp only [std]; omega) | grind); (first | rfl | exact (Row.eq _).trans rfl)) | (refine fill_init ?_; (first | rfl | exact (Row.eq _).trans rfl)) | grind [snocI, snocS, rowSnoc]))
theorem run_c_toDatum_s (x : Datum) : aexec Try.prog (Option.getD (Func.body Try.f44) Code.skip) (entry [] [datumA x] 18) [Orc.call [Mode.rd] [Ob.arr true 4 (List.map datumC
 (Datum.items x))] (AV.sv (SV.one (AC.ref 0))), Orc.fin [3]] (finK Try.prog [ResultVar.cell 2 66] (datumO x) (AV.sv (datumR x 0))) = (P_c_toDatumS (Datum.items x) ∧ ObsEq [Ob.arr
 true 4 (List.map datumC (Datum.items x))] [Ob.arr true 4 (List.map datumC (Datum.items x))] ∧ AV.sv (SV.agg [vI (Datum.kind x), vI (Datum.number x), vS (Datum.text x), AC.ref 0])
 = AV.sv (SV.agg [vI (Datum.kind x), vI (Datum.number x), vS (Datum.text x), AC.ref 0])) := by kernel_rfl
theorem c_toDatum_s (x : Datum) (h : wD x ≤ 1048576) (ih : ∀ z ∈ x.items, ∀ (h : wD z ≤ 1048576), P_c_toDatum z)  : P_c_toDatum x := by
  refine CallOK.ofRun wide (run_c_toDatum_s x) Try.call44 Try.func44 rfl rfl rfl ?_
  with_reducible repeat' (first | apply And.intro | exact flatI | exact flatS | exact rowLens | exact ih | (intro; skip) | apply obsN | apply obsC | apply obA | apply obM | apply obB | apply svA | apply tupA | apply lcA | apply lcS | apply svC | apply liC | apply lbC | apply lsC | apply vIc | apply vBc | apply vSc | apply vLc | apply mapC | apply c_toDatumS | apply ih)
  all_goals (try simp only [std] at *)
  all_goals (try (first | with_reducible rfl | omega | assumption | (refine (decide_eq_true ?_).symm; assumption) | (refine (decide_eq_false ?_).symm; assumption) | (refine rowGet ?_; (first | omega | (simp only [std]; omega) | grind)) | (refine getC ?_ rfl; (first | omega | (simp only [std]; omega) | grind)) | (refine fill_step ?_ ?_; (first | omega | (simp only [std]; omega) | grind); (first | rfl | exact (Row.eq _).trans rfl)) | (refine fill_init ?_; (first | rfl | exact (Row.eq _).trans rfl)) | grind [wD_eq, wS, snocI, snocS, rowSnoc]))
theorem c_toDatum (x : Datum) : ∀ (h : wD x ≤ 1048576), P_c_toDatum x := Datum.ind (P := fun x => ∀ (h : wD x ≤ 1048576), P_c_toDatum x) (fun x ih h => c_toDatum_s x h ih) x
abbrev P_c_toCoreS (L : List Core) : Prop := CallOK Try.prog 167 [] [ll (L.map coreC)] [.arr true 8 (L.map coreC)] (.sv (.one (.ref 0)))
abbrev P_c_toCore (x : Core) : Prop := CallOK Try.prog 60 [] [coreA x] (coreO x) (.sv (coreR x 0))
def Tc_toCoreSLa (L : List Core) (x0 : SV) (x1 : Ob) : St := St.mk (regsOf 23 [(0, AV.sv (ll (List.map coreC L))), (3, AV.sv (SV.one (AC.ref 0))), (4, AV.sv x0)]) [x1] 0 
def Lc_toCoreSLa (L : List Core) (k : Nat) : St := Tc_toCoreSLa L (li (↑k : Int)) (Ob.arr true 8 (List.map coreC (fillTo L k))) 
def Ic_toCoreSLa (L : List Core) : Nat → St → Prop := Head (Lc_toCoreSLa L) (fun k => k ≤ List.length L ∧ List.length L ≤ 9223372036854775807) fun k => List.length L - k 
def W0c_toCoreSLa (L : List Core) (x0 : Ob) : St := St.mk (regsOf 23 [(3, AV.sv (SV.one (AC.ref 0)))]) [x0] 0 
def Yc_toCoreSLa (L : List Core) : List (Prop × AEx × St) := [(True, AEx.exit 0, W0c_toCoreSLa L (Ob.arr true 8 (List.map coreC L)))]
theorem Hc_toCoreSLa {L : List Core} {k : Nat} {m : Nat} (h : (fun k => k ≤ List.length L ∧ List.length L ≤ 9223372036854775807) k) (hm : (fun k => List.length L - k) k = m) :
 Ic_toCoreSLa L m (Lc_toCoreSLa L k) := hm ▸ Head.mk h
theorem Ec_toCoreSLa {L : List Core} {k : Nat} {x0 : SV} {x1 : Ob} (h0 : x0 = (li (↑k : Int))) (h1 : x1 = (Ob.arr true 8 (List.map coreC (fillTo L k)))) : Tc_toCoreSLa L x0 x1 =
 Lc_toCoreSLa L k := by
  rw [h0, h1]
  rfl
theorem EW0c_toCoreSLa {L : List Core} {x0 y0 : Ob} (h0 : x0 = y0) : W0c_toCoreSLa L x0 = W0c_toCoreSLa L y0 := by rw [h0]
theorem run_c_toCoreSLa (L : List Core) (k : Nat) : aexec Try.prog (loopAt Try.f167 0) (Lc_toCoreSLa L k) [Orc.br [Orc.cells (coreF (List.getD L k default)), Orc.call [Mode.rd]
 (coreO (List.getD L k default)) (AV.sv (coreR (List.getD L k default) 0)), Orc.cells (coreF (List.getD (fillTo L k) (Int.toNat (↑k : Int)) default)), Orc.ghost (Ghost.sel [0] [0,
 3, 4]), Orc.goto (List.length L - (k + 1)) (Lc_toCoreSLa L (k + 1))] [Orc.ghost (Ghost.sel [0] [3]), Orc.out 0]] (loopK (Ic_toCoreSLa L) (Yc_toCoreSLa L) (List.length L - k)) =
 (List.length (List.map coreC L) ≤ 9223372036854775807 → (decide ((↑k : Int) < (↑(List.length (List.map coreC L)) : Int)) = true → (0 ≤ (↑k : Int) ∧ (List.map coreC L)[Int.toNat
 (↑k : Int)]? = some (coreF (List.getD L k default))) ∧ P_c_toCore (List.getD L k default) ∧ (0 ≤ (↑k : Int) ∧ Int.toNat (↑k : Int) < List.length (List.map coreC (fillTo L k))) ∧
 (List.map coreC (fillTo L k))[Int.toNat (↑k : Int)]? = some (coreF (List.getD (fillTo L k) (Int.toNat (↑k : Int)) default)) ∧ rng IntKind.i64 ((↑k : Int) + 1) ∧ List.length L - (k
 + 1) < List.length L - k ∧ Tc_toCoreSLa L (li ((↑k : Int) + 1)) (Ob.arr true 8 (List.set (List.map coreC (fillTo L k)) (Int.toNat (↑k : Int)) (coreF (List.getD L k default)))) =
 Lc_toCoreSLa L (k + 1) ∧ Ic_toCoreSLa L (List.length L - (k + 1)) (Lc_toCoreSLa L (k + 1))) ∧ (decide ((↑k : Int) < (↑(List.length (List.map coreC L)) : Int)) = false → True ∧
 W0c_toCoreSLa L (Ob.arr true 8 (List.map coreC (fillTo L k))) = W0c_toCoreSLa L (Ob.arr true 8 (List.map coreC L)))) := by kernel_rfl
theorem Sc_toCoreSLa (L : List Core) (h : List.length L + sumBy wC L ≤ 1048576) (ih : ∀ (x : Core), x ∈ L → wC x ≤ 1048576 → P_c_toCore x)  : LoopSem Try.prog (loopAt Try.f167 0)
 (Ic_toCoreSLa L) (Yc_toCoreSLa L) := by
  refine LoopSem.ofHead wide fun k h => ⟨_, _, run_c_toCoreSLa L k, ?_⟩
  with_reducible repeat' (first | apply And.intro | exact flatI | exact flatS | exact rowLens | exact ih | (intro; skip) | apply obsN | apply obsC | apply obA | apply obM | apply obB | apply svA | apply tupA | apply lcA | apply lcS | apply svC | apply liC | apply lbC | apply lsC | apply vIc | apply vBc | apply vSc | apply vLc | apply mapC | apply Hc_toCoreSLa | apply Ec_toCoreSLa | apply EW0c_toCoreSLa | apply ih)
  all_goals (try simp only [std] at *)
  all_goals (try (first | with_reducible rfl | omega | assumption | (refine (decide_eq_true ?_).symm; assumption) | (refine (decide_eq_false ?_).symm; assumption) | (refine rowGet ?_; (first | omega | (simp only [std]; omega) | grind)) | (refine getC ?_ rfl; (first | omega | (simp only [std]; omega) | grind)) | (refine fill_step ?_ ?_; (first | omega | (simp only [std]; omega) | grind); (first | rfl | exact (Row.eq _).trans rfl)) | (refine fill_init ?_; (first | rfl | exact (Row.eq _).trans rfl)) | grind [fillTo_all, getD_mem', sumBy_mem, snocI, snocS, rowSnoc]))
theorem run_c_toCoreS (L : List Core) : aexec Try.prog (Option.getD (Func.body Try.f167) Code.skip) (entry [] [ll (List.map coreC L)] 23) [Orc.ghost (Ghost.sel [0] [0, 3, 4]),
 Orc.loop (List.length L - 0) (Lc_toCoreSLa L 0) (Ic_toCoreSLa L) [(True, AEx.exit 0, W0c_toCoreSLa L (Ob.arr true 8 (List.map coreC L)), [Orc.fin [0]])]] (finK Try.prog
 [ResultVar.tmp 2] [Ob.arr true 8 (List.map coreC L)] (AV.sv (SV.one (AC.ref 0)))) = (List.length (List.map coreC L) ≤ 9223372036854775807 → (0 ≤ (↑(List.length (List.map coreC L))
 : Int) ∧ 120 * Int.toNat (↑(List.length (List.map coreC L)) : Int) ≤ 281474976710656) ∧ Tc_toCoreSLa L (li 0) (Ob.arr true 8 (List.replicate (Int.toNat (↑(List.length (List.map
 coreC L)) : Int)) [cI 0, cI 0, Cell.list [], cI 0, cI 0, cS (ByteArray.mk #[]), Cell.list [], Cell.list []])) = Lc_toCoreSLa L 0 ∧ Ic_toCoreSLa L (List.length L - 0) (Lc_toCoreSLa
 L 0) ∧ LoopSem Try.prog (loopAt Try.f167 0) (Ic_toCoreSLa L) (Yc_toCoreSLa L) ∧ (True → ObsEq [Ob.arr true 8 (List.map coreC L)] [Ob.arr true 8 (List.map coreC L)] ∧ AV.sv (SV.one
 (AC.ref 0)) = AV.sv (SV.one (AC.ref 0))) ∧ True) := by kernel_rfl
theorem c_toCoreS (L : List Core) (h : L.length + sumBy wC L ≤ 1048576) (ih : ∀ x ∈ L, ∀ (h : wC x ≤ 1048576), P_c_toCore x)  : P_c_toCoreS L := by
  refine CallOK.ofRun wide (run_c_toCoreS L) Try.call167 Try.func167 rfl rfl rfl ?_
  with_reducible repeat' (first | apply And.intro | exact flatI | exact flatS | exact rowLens | exact ih | (intro; skip) | apply obsN | apply obsC | apply obA | apply obM | apply obB | apply svA | apply tupA | apply lcA | apply lcS | apply svC | apply liC | apply lbC | apply lsC | apply vIc | apply vBc | apply vSc | apply vLc | apply mapC | apply Hc_toCoreSLa | apply Ec_toCoreSLa | apply Sc_toCoreSLa | apply EW0c_toCoreSLa)
  all_goals (try simp only [std] at *)
  all_goals (try (first | with_reducible rfl | omega | assumption | (refine (decide_eq_true ?_).symm; assumption) | (refine (decide_eq_false ?_).symm; assumption) | (refine rowGet ?_; (first | omega | (simp only [std]; omega) | grind)) | (refine getC ?_ rfl; (first | omega | (simp only [std]; omega) | grind)) | (refine fill_step ?_ ?_; (first | omega | (simp only [std]; omega) | grind); (first | rfl | exact (Row.eq _).trans rfl)) | (refine fill_init ?_; (first | rfl | exact (Row.eq _).trans rfl)) | grind [snocI, snocS, rowSnoc]))
theorem run_c_toCore_s (x : Core) : aexec Try.prog (Option.getD (Func.body Try.f60) Code.skip) (entry [] [coreA x] 23) [Orc.call [Mode.rd] [Ob.arr true 1 (List.map intC
 (Core.params x))] (AV.sv (SV.one (AC.ref 0))), Orc.call [Mode.rd] (datumO (Core.datum x)) (AV.sv (datumR (Core.datum x) 0)), Orc.call [Mode.rd] [Ob.arr true 8 (List.map coreC
 (Core.kids x))] (AV.sv (SV.one (AC.ref 0))), Orc.fin [3, 4, 5]] (finK Try.prog [ResultVar.cell 2 95] (coreO x) (AV.sv (coreR x 0))) = (P_c_toIntS (Core.params x) ∧ P_c_toDatum
 (Core.datum x) ∧ P_c_toCoreS (Core.kids x) ∧ ObsEq [Ob.arr true 1 (List.map intC (Core.params x)), Ob.arr true 4 (List.map datumC (Datum.items (Core.datum x))), Ob.arr true 8
 (List.map coreC (Core.kids x))] [Ob.arr true 1 (List.map intC (Core.params x)), Ob.arr true 4 (List.map datumC (Datum.items (Core.datum x))), Ob.arr true 8 (List.map coreC
 (Core.kids x))] ∧ AV.sv (SV.agg [vI (Core.kind x), vI (Core.number x), AC.ref 0, vI (Datum.kind (Core.datum x)), vI (Datum.number (Core.datum x)), vS (Datum.text (Core.datum x)),
 AC.ref 1, AC.ref 2]) = AV.sv (SV.agg [vI (Core.kind x), vI (Core.number x), AC.ref 0, vI (Datum.kind (Core.datum x)), vI (Datum.number (Core.datum x)), vS (Datum.text (Core.datum
 x)), AC.ref 1, AC.ref 2])) := by kernel_rfl
theorem c_toCore_s (x : Core) (h : wC x ≤ 1048576) (ih : ∀ z ∈ x.kids, ∀ (h : wC z ≤ 1048576), P_c_toCore z)  : P_c_toCore x := by
  refine CallOK.ofRun wide (run_c_toCore_s x) Try.call60 Try.func60 rfl rfl rfl ?_
  with_reducible repeat' (first | apply And.intro | exact flatI | exact flatS | exact rowLens | exact ih | (intro; skip) | apply obsN | apply obsC | apply obA | apply obM | apply obB | apply svA | apply tupA | apply lcA | apply lcS | apply svC | apply liC | apply lbC | apply lsC | apply vIc | apply vBc | apply vSc | apply vLc | apply mapC | apply c_toIntS | apply c_toDatum | apply c_toCoreS | apply ih)
  all_goals (try simp only [std] at *)
  all_goals (try (first | with_reducible rfl | omega | assumption | (refine (decide_eq_true ?_).symm; assumption) | (refine (decide_eq_false ?_).symm; assumption) | (refine rowGet ?_; (first | omega | (simp only [std]; omega) | grind)) | (refine getC ?_ rfl; (first | omega | (simp only [std]; omega) | grind)) | (refine fill_step ?_ ?_; (first | omega | (simp only [std]; omega) | grind); (first | rfl | exact (Row.eq _).trans rfl)) | (refine fill_init ?_; (first | rfl | exact (Row.eq _).trans rfl)) | grind [wC_eq, wS, snocI, snocS, rowSnoc]))
theorem c_toCore (x : Core) : ∀ (h : wC x ≤ 1048576), P_c_toCore x := Core.ind (P := fun x => ∀ (h : wC x ≤ 1048576), P_c_toCore x) (fun x ih h => c_toCore_s x h ih) x
abbrev P_c_toUnit (x : Unit) : Prop := CallOK Try.prog 74 [] [unitA x] (unitO x) (.sv (unitR x 0))
theorem run_c_toUnit (x : Unit) : aexec Try.prog (Option.getD (Func.body Try.f74) Code.skip) (entry [] [unitA x] 16) [Orc.call [Mode.rd] [Ob.arr true 1 (List.map intC (Unit.globals
 x))] (AV.sv (SV.one (AC.ref 0))), Orc.call [Mode.rd] (coreO (Unit.body x)) (AV.sv (coreR (Unit.body x) 0)), Orc.fin [3, 4, 5, 6]] (finK Try.prog [ResultVar.cell 2 120] (unitO x)
 (AV.sv (unitR x 0))) = (P_c_toIntS (Unit.globals x) ∧ P_c_toCore (Unit.body x) ∧ ObsEq [Ob.arr true 1 (List.map intC (Unit.globals x)), Ob.arr true 1 (List.map intC (Core.params
 (Unit.body x))), Ob.arr true 4 (List.map datumC (Datum.items (Core.datum (Unit.body x)))), Ob.arr true 8 (List.map coreC (Core.kids (Unit.body x)))] [Ob.arr true 1 (List.map intC
 (Unit.globals x)), Ob.arr true 1 (List.map intC (Core.params (Unit.body x))), Ob.arr true 4 (List.map datumC (Datum.items (Core.datum (Unit.body x)))), Ob.arr true 8 (List.map
 coreC (Core.kids (Unit.body x)))] ∧ AV.sv (SV.agg [vS (Unit.name x), AC.ref 0, vI (Core.kind (Unit.body x)), vI (Core.number (Unit.body x)), AC.ref 1, vI (Datum.kind (Core.datum
 (Unit.body x))), vI (Datum.number (Core.datum (Unit.body x))), vS (Datum.text (Core.datum (Unit.body x))), AC.ref 2, AC.ref 3]) = AV.sv (SV.agg [vS (Unit.name x), AC.ref 0, vI
 (Core.kind (Unit.body x)), vI (Core.number (Unit.body x)), AC.ref 1, vI (Datum.kind (Core.datum (Unit.body x))), vI (Datum.number (Core.datum (Unit.body x))), vS (Datum.text
 (Core.datum (Unit.body x))), AC.ref 2, AC.ref 3])) := by kernel_rfl
theorem c_toUnit (x : Unit) (h : wU x ≤ 1048576)  : P_c_toUnit x := by
  refine CallOK.ofRun wide (run_c_toUnit x) Try.call74 Try.func74 rfl rfl rfl ?_
  with_reducible repeat' (first | apply And.intro | exact flatI | exact flatS | exact rowLens | (intro; skip) | apply obsN | apply obsC | apply obA | apply obM | apply obB | apply svA | apply tupA | apply lcA | apply lcS | apply svC | apply liC | apply lbC | apply lsC | apply vIc | apply vBc | apply vSc | apply vLc | apply mapC | apply c_toIntS | apply c_toCore)
  all_goals (try simp only [std] at *)
  all_goals (try (first | with_reducible rfl | omega | assumption | (refine (decide_eq_true ?_).symm; assumption) | (refine (decide_eq_false ?_).symm; assumption) | (refine rowGet ?_; (first | omega | (simp only [std]; omega) | grind)) | (refine getC ?_ rfl; (first | omega | (simp only [std]; omega) | grind)) | (refine fill_step ?_ ?_; (first | omega | (simp only [std]; omega) | grind); (first | rfl | exact (Row.eq _).trans rfl)) | (refine fill_init ?_; (first | rfl | exact (Row.eq _).trans rfl)) | grind [wU_eq, wS, snocI, snocS, rowSnoc]))
abbrev P_c_toUnitS (L : List Unit) : Prop := CallOK Try.prog 26 [] [ll (L.map unitC)] [.arr true 10 (L.map unitC)] (.sv (.one (.ref 0)))
def Tc_toUnitSLa (L : List Unit) (x0 : SV) (x1 : Ob) : St := St.mk (regsOf 23 [(0, AV.sv (ll (List.map unitC L))), (3, AV.sv (SV.one (AC.ref 0))), (4, AV.sv x0)]) [x1] 0 
def Lc_toUnitSLa (L : List Unit) (k : Nat) : St := Tc_toUnitSLa L (li (↑k : Int)) (Ob.arr true 10 (List.map unitC (fillTo L k))) 
def Ic_toUnitSLa (L : List Unit) : Nat → St → Prop := Head (Lc_toUnitSLa L) (fun k => k ≤ List.length L ∧ List.length L ≤ 9223372036854775807) fun k => List.length L - k 
def W0c_toUnitSLa (L : List Unit) (x0 : Ob) : St := St.mk (regsOf 23 [(3, AV.sv (SV.one (AC.ref 0)))]) [x0] 0 
def Yc_toUnitSLa (L : List Unit) : List (Prop × AEx × St) := [(True, AEx.exit 0, W0c_toUnitSLa L (Ob.arr true 10 (List.map unitC L)))]
theorem Hc_toUnitSLa {L : List Unit} {k : Nat} {m : Nat} (h : (fun k => k ≤ List.length L ∧ List.length L ≤ 9223372036854775807) k) (hm : (fun k => List.length L - k) k = m) :
 Ic_toUnitSLa L m (Lc_toUnitSLa L k) := hm ▸ Head.mk h
theorem Ec_toUnitSLa {L : List Unit} {k : Nat} {x0 : SV} {x1 : Ob} (h0 : x0 = (li (↑k : Int))) (h1 : x1 = (Ob.arr true 10 (List.map unitC (fillTo L k)))) : Tc_toUnitSLa L x0 x1 =
 Lc_toUnitSLa L k := by
  rw [h0, h1]
  rfl
theorem EW0c_toUnitSLa {L : List Unit} {x0 y0 : Ob} (h0 : x0 = y0) : W0c_toUnitSLa L x0 = W0c_toUnitSLa L y0 := by rw [h0]
theorem run_c_toUnitSLa (L : List Unit) (k : Nat) : aexec Try.prog (loopAt Try.f26 0) (Lc_toUnitSLa L k) [Orc.br [Orc.cells (unitF (List.getD L k default)), Orc.call [Mode.rd]
 (unitO (List.getD L k default)) (AV.sv (unitR (List.getD L k default) 0)), Orc.cells (unitF (List.getD (fillTo L k) (Int.toNat (↑k : Int)) default)), Orc.ghost (Ghost.sel [0] [0,
 3, 4]), Orc.goto (List.length L - (k + 1)) (Lc_toUnitSLa L (k + 1))] [Orc.ghost (Ghost.sel [0] [3]), Orc.out 0]] (loopK (Ic_toUnitSLa L) (Yc_toUnitSLa L) (List.length L - k)) =
 (List.length (List.map unitC L) ≤ 9223372036854775807 → (decide ((↑k : Int) < (↑(List.length (List.map unitC L)) : Int)) = true → (0 ≤ (↑k : Int) ∧ (List.map unitC L)[Int.toNat
 (↑k : Int)]? = some (unitF (List.getD L k default))) ∧ P_c_toUnit (List.getD L k default) ∧ (0 ≤ (↑k : Int) ∧ Int.toNat (↑k : Int) < List.length (List.map unitC (fillTo L k))) ∧
 (List.map unitC (fillTo L k))[Int.toNat (↑k : Int)]? = some (unitF (List.getD (fillTo L k) (Int.toNat (↑k : Int)) default)) ∧ rng IntKind.i64 ((↑k : Int) + 1) ∧ List.length L - (k
 + 1) < List.length L - k ∧ Tc_toUnitSLa L (li ((↑k : Int) + 1)) (Ob.arr true 10 (List.set (List.map unitC (fillTo L k)) (Int.toNat (↑k : Int)) (unitF (List.getD L k default)))) =
 Lc_toUnitSLa L (k + 1) ∧ Ic_toUnitSLa L (List.length L - (k + 1)) (Lc_toUnitSLa L (k + 1))) ∧ (decide ((↑k : Int) < (↑(List.length (List.map unitC L)) : Int)) = false → True ∧
 W0c_toUnitSLa L (Ob.arr true 10 (List.map unitC (fillTo L k))) = W0c_toUnitSLa L (Ob.arr true 10 (List.map unitC L)))) := by kernel_rfl
theorem Sc_toUnitSLa (L : List Unit) (h : List.length L + sumBy wU L ≤ 1048576)  : LoopSem Try.prog (loopAt Try.f26 0) (Ic_toUnitSLa L) (Yc_toUnitSLa L) := by
  refine LoopSem.ofHead wide fun k h => ⟨_, _, run_c_toUnitSLa L k, ?_⟩
  with_reducible repeat' (first | apply And.intro | exact flatI | exact flatS | exact rowLens | (intro; skip) | apply obsN | apply obsC | apply obA | apply obM | apply obB | apply svA | apply tupA | apply lcA | apply lcS | apply svC | apply liC | apply lbC | apply lsC | apply vIc | apply vBc | apply vSc | apply vLc | apply mapC | apply Hc_toUnitSLa | apply Ec_toUnitSLa | apply EW0c_toUnitSLa | apply c_toUnit)
  all_goals (try simp only [std] at *)
  all_goals (try (first | with_reducible rfl | omega | assumption | (refine (decide_eq_true ?_).symm; assumption) | (refine (decide_eq_false ?_).symm; assumption) | (refine rowGet ?_; (first | omega | (simp only [std]; omega) | grind)) | (refine getC ?_ rfl; (first | omega | (simp only [std]; omega) | grind)) | (refine fill_step ?_ ?_; (first | omega | (simp only [std]; omega) | grind); (first | rfl | exact (Row.eq _).trans rfl)) | (refine fill_init ?_; (first | rfl | exact (Row.eq _).trans rfl)) | grind [fillTo_all, getD_mem', sumBy_mem, snocI, snocS, rowSnoc]))
theorem run_c_toUnitS (L : List Unit) : aexec Try.prog (Option.getD (Func.body Try.f26) Code.skip) (entry [] [ll (List.map unitC L)] 23) [Orc.ghost (Ghost.sel [0] [0, 3, 4]),
 Orc.loop (List.length L - 0) (Lc_toUnitSLa L 0) (Ic_toUnitSLa L) [(True, AEx.exit 0, W0c_toUnitSLa L (Ob.arr true 10 (List.map unitC L)), [Orc.fin [0]])]] (finK Try.prog
 [ResultVar.tmp 2] [Ob.arr true 10 (List.map unitC L)] (AV.sv (SV.one (AC.ref 0)))) = (List.length (List.map unitC L) ≤ 9223372036854775807 → (0 ≤ (↑(List.length (List.map unitC
 L)) : Int) ∧ 160 * Int.toNat (↑(List.length (List.map unitC L)) : Int) ≤ 281474976710656) ∧ Tc_toUnitSLa L (li 0) (Ob.arr true 10 (List.replicate (Int.toNat (↑(List.length
 (List.map unitC L)) : Int)) [cS (ByteArray.mk #[]), Cell.list [], cI 0, cI 0, Cell.list [], cI 0, cI 0, cS (ByteArray.mk #[]), Cell.list [], Cell.list []])) = Lc_toUnitSLa L 0 ∧
 Ic_toUnitSLa L (List.length L - 0) (Lc_toUnitSLa L 0) ∧ LoopSem Try.prog (loopAt Try.f26 0) (Ic_toUnitSLa L) (Yc_toUnitSLa L) ∧ (True → ObsEq [Ob.arr true 10 (List.map unitC L)]
 [Ob.arr true 10 (List.map unitC L)] ∧ AV.sv (SV.one (AC.ref 0)) = AV.sv (SV.one (AC.ref 0))) ∧ True) := by kernel_rfl
theorem c_toUnitS (L : List Unit) (h : L.length + sumBy wU L ≤ 1048576)  : P_c_toUnitS L := by
  refine CallOK.ofRun wide (run_c_toUnitS L) Try.call26 Try.func26 rfl rfl rfl ?_
  with_reducible repeat' (first | apply And.intro | exact flatI | exact flatS | exact rowLens | (intro; skip) | apply obsN | apply obsC | apply obA | apply obM | apply obB | apply svA | apply tupA | apply lcA | apply lcS | apply svC | apply liC | apply lbC | apply lsC | apply vIc | apply vBc | apply vSc | apply vLc | apply mapC | apply Hc_toUnitSLa | apply Ec_toUnitSLa | apply Sc_toUnitSLa | apply EW0c_toUnitSLa | apply c_toUnit)
  all_goals (try simp only [std] at *)
  all_goals (try (first | with_reducible rfl | omega | assumption | (refine (decide_eq_true ?_).symm; assumption) | (refine (decide_eq_false ?_).symm; assumption) | (refine rowGet ?_; (first | omega | (simp only [std]; omega) | grind)) | (refine getC ?_ rfl; (first | omega | (simp only [std]; omega) | grind)) | (refine fill_step ?_ ?_; (first | omega | (simp only [std]; omega) | grind); (first | rfl | exact (Row.eq _).trans rfl)) | (refine fill_init ?_; (first | rfl | exact (Row.eq _).trans rfl)) | grind [snocI, snocS, rowSnoc]))
end Go.Proofs.Ytehpjofddjmbpaa
end
section
namespace Go.Proofs.Ytehpjofddjmbpaa
open Go Go.Proofs.Ytehpjofddjmbpaa.Ab
set_option linter.unusedVariables false
set_option linter.unusedSimpArgs false
set_option maxHeartbeats 4000000
abbrev P_c_eqIntS (A : List Int) (B : List Int) : Prop := CallOK Try.prog 28 [] [ll (A.map intC), ll (B.map intC)] [] (.sv (lb (decide (A = B))))
def Tc_eqIntSLa (A : List Int) (B : List Int) (x0 : SV) : St := St.mk (regsOf 26 [(0, AV.sv (ll (List.map intC A))), (1, AV.sv (ll (List.map intC B))), (5, AV.sv x0)]) [] 0 
def Lc_eqIntSLa (A : List Int) (B : List Int) (k : Nat) : St := Tc_eqIntSLa A B (li (↑k : Int)) 
def Ic_eqIntSLa (A : List Int) (B : List Int) : Nat → St → Prop := Head (Lc_eqIntSLa A B) (fun k => k ≤ List.length A ∧ List.length A ≤ 9223372036854775807 ∧ List.length A =
 List.length B ∧ List.take k A = List.take k B) fun k => List.length A - k 
def W0c_eqIntSLa (A : List Int) (B : List Int) : St := St.mk (regsOf 26 []) [] 0 
def W1c_eqIntSLa (A : List Int) (B : List Int) (x0 : SV) : St := St.mk (regsOf 26 [(4, AV.sv x0)]) [] 0 
def Yc_eqIntSLa (A : List Int) (B : List Int) : List (Prop × AEx × St) := [(A = B, AEx.exit 0, W0c_eqIntSLa A B), (A ≠ B, AEx.ret, W1c_eqIntSLa A B (lb false))]
theorem Hc_eqIntSLa {A : List Int} {B : List Int} {k : Nat} {m : Nat} (h : (fun k => k ≤ List.length A ∧ List.length A ≤ 9223372036854775807 ∧ List.length A = List.length B ∧
 List.take k A = List.take k B) k) (hm : (fun k => List.length A - k) k = m) : Ic_eqIntSLa A B m (Lc_eqIntSLa A B k) := hm ▸ Head.mk h
theorem Ec_eqIntSLa {A : List Int} {B : List Int} {k : Nat} {x0 : SV} (h0 : x0 = (li (↑k : Int))) : Tc_eqIntSLa A B x0 = Lc_eqIntSLa A B k := by
  rw [h0]
  rfl
theorem EW1c_eqIntSLa {A : List Int} {B : List Int} {x0 y0 : SV} (h0 : x0 = y0) : W1c_eqIntSLa A B x0 = W1c_eqIntSLa A B y0 := by rw [h0]
theorem run_c_eqIntSLa (A : List Int) (B : List Int) (k : Nat) : aexec Try.prog (loopAt Try.f28 0) (Lc_eqIntSLa A B k) [Orc.br [Orc.draw [], Orc.cells (intC (List.getD A k
 default)), Orc.cells (intC (List.getD B k default)), Orc.br [Orc.ghost (Ghost.sel [] [4]), Orc.out 1] [Orc.ghost (Ghost.sel [] [0, 1, 5]), Orc.goto (List.length A - (k + 1))
 (Lc_eqIntSLa A B (k + 1))]] [Orc.ghost (Ghost.sel [] []), Orc.out 0]] (loopK (Ic_eqIntSLa A B) (Yc_eqIntSLa A B) (List.length A - k)) = (List.length (List.map intC A) ≤
 9223372036854775807 → (decide ((↑k : Int) < (↑(List.length (List.map intC A)) : Int)) = true → (0 ≤ (↑k : Int) ∧ (List.map intC A)[Int.toNat (↑k : Int)]? = some [cI (List.getD A k
 0)]) ∧ (0 ≤ (↑k : Int) ∧ (List.map intC B)[Int.toNat (↑k : Int)]? = some [cI (List.getD B k 0)]) ∧ (decide (List.getD A k (0 : Int) ≠ List.getD B k 0) = true → A ≠ B ∧
 W1c_eqIntSLa A B (lb false) = W1c_eqIntSLa A B (lb false)) ∧ (decide (List.getD A k (0 : Int) ≠ List.getD B k 0) = false → rng IntKind.i64 ((↑k : Int) + 1) ∧ List.length A - (k +
 1) < List.length A - k ∧ Tc_eqIntSLa A B (li ((↑k : Int) + 1)) = Lc_eqIntSLa A B (k + 1) ∧ Ic_eqIntSLa A B (List.length A - (k + 1)) (Lc_eqIntSLa A B (k + 1)))) ∧ (decide ((↑k :
 Int) < (↑(List.length (List.map intC A)) : Int)) = false → A = B ∧ W0c_eqIntSLa A B = W0c_eqIntSLa A B)) := by kernel_rfl
theorem Sc_eqIntSLa (A : List Int) (B : List Int)  : LoopSem Try.prog (loopAt Try.f28 0) (Ic_eqIntSLa A B) (Yc_eqIntSLa A B) := by
  refine LoopSem.ofHead wide fun k h => ⟨_, _, run_c_eqIntSLa A B k, ?_⟩
  with_reducible repeat' (first | apply And.intro | exact flatI | exact flatS | exact rowLens | (intro; skip) | apply obsN | apply obsC | apply obA | apply obM | apply obB | apply svA | apply tupA | apply lcA | apply lcS | apply svC | apply liC | apply lbC | apply lsC | apply vIc | apply vBc | apply vSc | apply vLc | apply mapC | apply Hc_eqIntSLa | apply Ec_eqIntSLa | apply EW1c_eqIntSLa)
  all_goals (try simp only [std] at *)
  all_goals (try (first | with_reducible rfl | omega | assumption | (refine (decide_eq_true ?_).symm; assumption) | (refine (decide_eq_false ?_).symm; assumption) | (refine rowGet ?_; (first | omega | (simp only [std]; omega) | grind)) | (refine getC ?_ rfl; (first | omega | (simp only [std]; omega) | grind)) | (refine fill_step ?_ ?_; (first | omega | (simp only [std]; omega) | grind); (first | rfl | exact (Row.eq _).trans rfl)) | (refine fill_init ?_; (first | rfl | exact (Row.eq _).trans rfl)) | grind [take_eq, snocI, snocS, rowSnoc]))
theorem run_c_eqIntS (A : List Int) (B : List Int) : aexec Try.prog (Option.getD (Func.body Try.f28) Code.skip) (entry [] [ll (List.map intC A), ll (List.map intC B)] 26) [Orc.br
 [Orc.fin []] [Orc.ghost (Ghost.sel [] [0, 1, 5]), Orc.loop (List.length A - 0) (Lc_eqIntSLa A B 0) (Ic_eqIntSLa A B) [(A = B, AEx.exit 0, W0c_eqIntSLa A B, [Orc.fin []]), (A ≠ B,
 AEx.ret, W1c_eqIntSLa A B (lb false), [Orc.fin []])]]] (finK Try.prog [ResultVar.tmp 4] [] (AV.sv (lb (decide (A = B))))) = (List.length (List.map intC A) ≤ 9223372036854775807 →
 List.length (List.map intC B) ≤ 9223372036854775807 → (decide ((↑(List.length (List.map intC A)) : Int) ≠ (↑(List.length (List.map intC B)) : Int)) = true → ObsEq [] [] ∧ AV.sv
 (lb false) = AV.sv (lb (decide (A = B)))) ∧ (decide ((↑(List.length (List.map intC A)) : Int) ≠ (↑(List.length (List.map intC B)) : Int)) = false → Tc_eqIntSLa A B (li 0) =
 Lc_eqIntSLa A B 0 ∧ Ic_eqIntSLa A B (List.length A - 0) (Lc_eqIntSLa A B 0) ∧ LoopSem Try.prog (loopAt Try.f28 0) (Ic_eqIntSLa A B) (Yc_eqIntSLa A B) ∧ (A = B → ObsEq [] [] ∧
 AV.sv (lb true) = AV.sv (lb (decide (A = B)))) ∧ ((A = B → False) → ObsEq [] [] ∧ AV.sv (lb false) = AV.sv (lb (decide (A = B)))) ∧ True)) := by kernel_rfl
theorem c_eqIntS (A B : List Int)  : P_c_eqIntS A B := by
  refine CallOK.ofRun wide (run_c_eqIntS A B) Try.call28 Try.func28 rfl rfl rfl ?_
  with_reducible repeat' (first | apply And.intro | exact flatI | exact flatS | exact rowLens | (intro; skip) | apply obsN | apply obsC | apply obA | apply obM | apply obB | apply svA | apply tupA | apply lcA | apply lcS | apply svC | apply liC | apply lbC | apply lsC | apply vIc | apply vBc | apply vSc | apply vLc | apply mapC | apply Hc_eqIntSLa | apply Ec_eqIntSLa | apply Sc_eqIntSLa | apply EW1c_eqIntSLa)
  all_goals (try simp only [std] at *)
  all_goals (try (first | with_reducible rfl | omega | assumption | (refine (decide_eq_true ?_).symm; assumption) | (refine (decide_eq_false ?_).symm; assumption) | (refine rowGet ?_; (first | omega | (simp only [std]; omega) | grind)) | (refine getC ?_ rfl; (first | omega | (simp only [std]; omega) | grind)) | (refine fill_step ?_ ?_; (first | omega | (simp only [std]; omega) | grind); (first | rfl | exact (Row.eq _).trans rfl)) | (refine fill_init ?_; (first | rfl | exact (Row.eq _).trans rfl)) | grind [snocI, snocS, rowSnoc]))
abbrev P_c_eqDatumS (A : List Datum) (B : List Datum) : Prop := CallOK Try.prog 131 [] [ll (A.map datumC), ll (B.map datumC)] [] (.sv (lb (decide (A = B))))
abbrev P_c_eqDatum (x : Datum) (y : Datum) : Prop := CallOK Try.prog 46 [] [datumA x, datumA y] [] (.sv (lb (decide (x = y))))
def Tc_eqDatumSLa (A : List Datum) (B : List Datum) (x0 : SV) : St := St.mk (regsOf 27 [(0, AV.sv (ll (List.map datumC A))), (1, AV.sv (ll (List.map datumC B))), (5, AV.sv x0)]) []
 0 
def Lc_eqDatumSLa (A : List Datum) (B : List Datum) (k : Nat) : St := Tc_eqDatumSLa A B (li (↑k : Int)) 
def Ic_eqDatumSLa (A : List Datum) (B : List Datum) : Nat → St → Prop := Head (Lc_eqDatumSLa A B) (fun k => k ≤ List.length A ∧ List.length A ≤ 9223372036854775807 ∧ List.length A
 = List.length B ∧ List.take k A = List.take k B) fun k => List.length A - k 
def W0c_eqDatumSLa (A : List Datum) (B : List Datum) : St := St.mk (regsOf 27 []) [] 0 
def W1c_eqDatumSLa (A : List Datum) (B : List Datum) (x0 : SV) : St := St.mk (regsOf 27 [(4, AV.sv x0)]) [] 0 
def Yc_eqDatumSLa (A : List Datum) (B : List Datum) : List (Prop × AEx × St) := [(A = B, AEx.exit 0, W0c_eqDatumSLa A B), (A ≠ B, AEx.ret, W1c_eqDatumSLa A B (lb false))]
theorem Hc_eqDatumSLa {A : List Datum} {B : List Datum} {k : Nat} {m : Nat} (h : (fun k => k ≤ List.length A ∧ List.length A ≤ 9223372036854775807 ∧ List.length A = List.length B ∧
 List.take k A = List.take k B) k) (hm : (fun k => List.length A - k) k = m) : Ic_eqDatumSLa A B m (Lc_eqDatumSLa A B k) := hm ▸ Head.mk h
theorem Ec_eqDatumSLa {A : List Datum} {B : List Datum} {k : Nat} {x0 : SV} (h0 : x0 = (li (↑k : Int))) : Tc_eqDatumSLa A B x0 = Lc_eqDatumSLa A B k := by
  rw [h0]
  rfl
theorem EW1c_eqDatumSLa {A : List Datum} {B : List Datum} {x0 y0 : SV} (h0 : x0 = y0) : W1c_eqDatumSLa A B x0 = W1c_eqDatumSLa A B y0 := by rw [h0]
theorem run_c_eqDatumSLa (A : List Datum) (B : List Datum) (k : Nat) : aexec Try.prog (loopAt Try.f131 0) (Lc_eqDatumSLa A B k) [Orc.br [Orc.draw [], Orc.cells (datumF (List.getD A
 k default)), Orc.cells (datumF (List.getD B k default)), Orc.call [Mode.rd, Mode.rd] [] (AV.sv (lb (decide (List.getD A k default = List.getD B k default)))), Orc.br [Orc.ghost
 (Ghost.sel [] [4]), Orc.out 1] [Orc.ghost (Ghost.sel [] [0, 1, 5]), Orc.goto (List.length A - (k + 1)) (Lc_eqDatumSLa A B (k + 1))]] [Orc.ghost (Ghost.sel [] []), Orc.out 0]]
 (loopK (Ic_eqDatumSLa A B) (Yc_eqDatumSLa A B) (List.length A - k)) = (List.length (List.map datumC A) ≤ 9223372036854775807 → (decide ((↑k : Int) < (↑(List.length (List.map
 datumC A)) : Int)) = true → (0 ≤ (↑k : Int) ∧ (List.map datumC A)[Int.toNat (↑k : Int)]? = some (datumF (List.getD A k default))) ∧ (0 ≤ (↑k : Int) ∧ (List.map datumC B)[Int.toNat
 (↑k : Int)]? = some (datumF (List.getD B k default))) ∧ P_c_eqDatum (List.getD A k default) (List.getD B k default) ∧ ((!decide (List.getD A k default = List.getD B k default)) =
 true → A ≠ B ∧ W1c_eqDatumSLa A B (lb false) = W1c_eqDatumSLa A B (lb false)) ∧ ((!decide (List.getD A k default = List.getD B k default)) = false → rng IntKind.i64 ((↑k : Int) +
 1) ∧ List.length A - (k + 1) < List.length A - k ∧ Tc_eqDatumSLa A B (li ((↑k : Int) + 1)) = Lc_eqDatumSLa A B (k + 1) ∧ Ic_eqDatumSLa A B (List.length A - (k + 1)) (Lc_eqDatumSLa
 A B (k + 1)))) ∧ (decide ((↑k : Int) < (↑(List.length (List.map datumC A)) : Int)) = false → A = B ∧ W0c_eqDatumSLa A B = W0c_eqDatumSLa A B)) := by kernel_rfl
theorem Sc_eqDatumSLa (A : List Datum) (B : List Datum) (ih : ∀ (x : Datum), x ∈ A → ∀ (y : Datum), P_c_eqDatum x y)  : LoopSem Try.prog (loopAt Try.f131 0) (Ic_eqDatumSLa A B)
 (Yc_eqDatumSLa A B) := by
  refine LoopSem.ofHead wide fun k h => ⟨_, _, run_c_eqDatumSLa A B k, ?_⟩
  with_reducible repeat' (first | apply And.intro | exact flatI | exact flatS | exact rowLens | exact ih | (intro; skip) | apply obsN | apply obsC | apply obA | apply obM | apply obB | apply svA | apply tupA | apply lcA | apply lcS | apply svC | apply liC | apply lbC | apply lsC | apply vIc | apply vBc | apply vSc | apply vLc | apply mapC | apply Hc_eqDatumSLa | apply Ec_eqDatumSLa | apply EW1c_eqDatumSLa | apply ih)
  all_goals (try simp only [std] at *)
  all_goals (try (first | with_reducible rfl | omega | assumption | (refine (decide_eq_true ?_).symm; assumption) | (refine (decide_eq_false ?_).symm; assumption) | (refine rowGet ?_; (first | omega | (simp only [std]; omega) | grind)) | (refine getC ?_ rfl; (first | omega | (simp only [std]; omega) | grind)) | (refine fill_step ?_ ?_; (first | omega | (simp only [std]; omega) | grind); (first | rfl | exact (Row.eq _).trans rfl)) | (refine fill_init ?_; (first | rfl | exact (Row.eq _).trans rfl)) | grind [take_eq, getD_mem', snocI, snocS, rowSnoc]))
theorem run_c_eqDatumS (A : List Datum) (B : List Datum) : aexec Try.prog (Option.getD (Func.body Try.f131) Code.skip) (entry [] [ll (List.map datumC A), ll (List.map datumC B)]
 27) [Orc.br [Orc.fin []] [Orc.ghost (Ghost.sel [] [0, 1, 5]), Orc.loop (List.length A - 0) (Lc_eqDatumSLa A B 0) (Ic_eqDatumSLa A B) [(A = B, AEx.exit 0, W0c_eqDatumSLa A B,
 [Orc.fin []]), (A ≠ B, AEx.ret, W1c_eqDatumSLa A B (lb false), [Orc.fin []])]]] (finK Try.prog [ResultVar.tmp 4] [] (AV.sv (lb (decide (A = B))))) = (List.length (List.map datumC
 A) ≤ 9223372036854775807 → List.length (List.map datumC B) ≤ 9223372036854775807 → (decide ((↑(List.length (List.map datumC A)) : Int) ≠ (↑(List.length (List.map datumC B)) :
 Int)) = true → ObsEq [] [] ∧ AV.sv (lb false) = AV.sv (lb (decide (A = B)))) ∧ (decide ((↑(List.length (List.map datumC A)) : Int) ≠ (↑(List.length (List.map datumC B)) : Int)) =
 false → Tc_eqDatumSLa A B (li 0) = Lc_eqDatumSLa A B 0 ∧ Ic_eqDatumSLa A B (List.length A - 0) (Lc_eqDatumSLa A B 0) ∧ LoopSem Try.prog (loopAt Try.f131 0) (Ic_eqDatumSLa A B)
 (Yc_eqDatumSLa A B) ∧ (A = B → ObsEq [] [] ∧ AV.sv (lb true) = AV.sv (lb (decide (A = B)))) ∧ ((A = B → False) → ObsEq [] [] ∧ AV.sv (lb false) = AV.sv (lb (decide (A = B)))) ∧
 True)) := by kernel_rfl
theorem c_eqDatumS (A B : List Datum) (ih : ∀ x ∈ A, ∀ (y : Datum), P_c_eqDatum x y)  : P_c_eqDatumS A B := by
  refine CallOK.ofRun wide (run_c_eqDatumS A B) Try.call131 Try.func131 rfl rfl rfl ?_
  with_reducible repeat' (first | apply And.intro | exact flatI | exact flatS | exact rowLens | exact ih | (intro; skip) | apply obsN | apply obsC | apply obA | apply obM | apply obB | apply svA | apply tupA | apply lcA | apply lcS | apply svC | apply liC | apply lbC | apply lsC | apply vIc | apply vBc | apply vSc | apply vLc | apply mapC | apply Hc_eqDatumSLa | apply Ec_eqDatumSLa | apply Sc_eqDatumSLa | apply EW1c_eqDatumSLa)
  all_goals (try simp only [std] at *)
  all_goals (try (first | with_reducible rfl | omega | assumption | (refine (decide_eq_true ?_).symm; assumption) | (refine (decide_eq_false ?_).symm; assumption) | (refine rowGet ?_; (first | omega | (simp only [std]; omega) | grind)) | (refine getC ?_ rfl; (first | omega | (simp only [std]; omega) | grind)) | (refine fill_step ?_ ?_; (first | omega | (simp only [std]; omega) | grind); (first | rfl | exact (Row.eq _).trans rfl)) | (refine fill_init ?_; (first | rfl | exact (Row.eq _).trans rfl)) | grind [snocI, snocS, rowSnoc]))
theorem run_c_eqDatum_s (x : Datum) (y : Datum) : aexec Try.prog (Option.getD (Func.body Try.f46) Code.skip) (entry [] [datumA x, datumA y] 26) [Orc.br [Orc.fin []] [Orc.br
 [Orc.fin []] [Orc.br [Orc.fin []] [Orc.call [Mode.rd, Mode.rd] [] (AV.sv (lb (decide (Datum.items x = Datum.items y)))), Orc.br [Orc.fin []] [Orc.fin []]]]]] (finK Try.prog
 [ResultVar.tmp 4] [] (AV.sv (lb (decide (x = y))))) = ((decide (Datum.kind x ≠ Datum.kind y) = true → ObsEq [] [] ∧ AV.sv (lb false) = AV.sv (lb (decide (x = y)))) ∧ (decide
 (Datum.kind x ≠ Datum.kind y) = false → (decide (Datum.number x ≠ Datum.number y) = true → ObsEq [] [] ∧ AV.sv (lb false) = AV.sv (lb (decide (x = y)))) ∧ (decide (Datum.number x
 ≠ Datum.number y) = false → (decide (Array.toList (ByteArray.data (Datum.text x)) ≠ Array.toList (ByteArray.data (Datum.text y))) = true → ObsEq [] [] ∧ AV.sv (lb false) = AV.sv
 (lb (decide (x = y)))) ∧ (decide (Array.toList (ByteArray.data (Datum.text x)) ≠ Array.toList (ByteArray.data (Datum.text y))) = false → P_c_eqDatumS (Datum.items x) (Datum.items
 y) ∧ ((!decide (Datum.items x = Datum.items y)) = true → ObsEq [] [] ∧ AV.sv (lb false) = AV.sv (lb (decide (x = y)))) ∧ ((!decide (Datum.items x = Datum.items y)) = false → ObsEq
 [] [] ∧ AV.sv (lb true) = AV.sv (lb (decide (x = y)))))))) := by kernel_rfl
theorem c_eqDatum_s (x y : Datum) (ih : ∀ z ∈ x.items, ∀ (y : Datum), P_c_eqDatum z y)  : P_c_eqDatum x y := by
  refine CallOK.ofRun wide (run_c_eqDatum_s x y) Try.call46 Try.func46 rfl rfl rfl ?_
  simp only [datumExt]
  with_reducible repeat' (first | apply And.intro | exact flatI | exact flatS | exact rowLens | exact ih | (intro; skip) | apply obsN | apply obsC | apply obA | apply obM | apply obB | apply svA | apply tupA | apply lcA | apply lcS | apply svC | apply liC | apply lbC | apply lsC | apply vIc | apply vBc | apply vSc | apply vLc | apply mapC | apply c_eqDatumS | apply ih)
  all_goals (try simp only [std] at *)
  all_goals (try (first | with_reducible rfl | omega | assumption | (refine (decide_eq_true ?_).symm; assumption) | (refine (decide_eq_false ?_).symm; assumption) | (refine rowGet ?_; (first | omega | (simp only [std]; omega) | grind)) | (refine getC ?_ rfl; (first | omega | (simp only [std]; omega) | grind)) | (refine fill_step ?_ ?_; (first | omega | (simp only [std]; omega) | grind); (first | rfl | exact (Row.eq _).trans rfl)) | (refine fill_init ?_; (first | rfl | exact (Row.eq _).trans rfl)) | grind [bytes_ext, snocI, snocS, rowSnoc]))
theorem c_eqDatum (x : Datum) : ∀ (y : Datum), P_c_eqDatum x y := Datum.ind (P := fun x => ∀ (y : Datum), P_c_eqDatum x y) (fun x ih y => c_eqDatum_s x y ih) x
abbrev P_c_eqCoreS (A : List Core) (B : List Core) : Prop := CallOK Try.prog 171 [] [ll (A.map coreC), ll (B.map coreC)] [] (.sv (lb (decide (A = B))))
abbrev P_c_eqCore (x : Core) (y : Core) : Prop := CallOK Try.prog 63 [] [coreA x, coreA y] [] (.sv (lb (decide (x = y))))
def Tc_eqCoreSLa (A : List Core) (B : List Core) (x0 : SV) : St := St.mk (regsOf 27 [(0, AV.sv (ll (List.map coreC A))), (1, AV.sv (ll (List.map coreC B))), (5, AV.sv x0)]) [] 0 
def Lc_eqCoreSLa (A : List Core) (B : List Core) (k : Nat) : St := Tc_eqCoreSLa A B (li (↑k : Int)) 
def Ic_eqCoreSLa (A : List Core) (B : List Core) : Nat → St → Prop := Head (Lc_eqCoreSLa A B) (fun k => k ≤ List.length A ∧ List.length A ≤ 9223372036854775807 ∧ List.length A =
 List.length B ∧ List.take k A = List.take k B) fun k => List.length A - k 
def W0c_eqCoreSLa (A : List Core) (B : List Core) : St := St.mk (regsOf 27 []) [] 0 
def W1c_eqCoreSLa (A : List Core) (B : List Core) (x0 : SV) : St := St.mk (regsOf 27 [(4, AV.sv x0)]) [] 0 
def Yc_eqCoreSLa (A : List Core) (B : List Core) : List (Prop × AEx × St) := [(A = B, AEx.exit 0, W0c_eqCoreSLa A B), (A ≠ B, AEx.ret, W1c_eqCoreSLa A B (lb false))]
theorem Hc_eqCoreSLa {A : List Core} {B : List Core} {k : Nat} {m : Nat} (h : (fun k => k ≤ List.length A ∧ List.length A ≤ 9223372036854775807 ∧ List.length A = List.length B ∧
 List.take k A = List.take k B) k) (hm : (fun k => List.length A - k) k = m) : Ic_eqCoreSLa A B m (Lc_eqCoreSLa A B k) := hm ▸ Head.mk h
theorem Ec_eqCoreSLa {A : List Core} {B : List Core} {k : Nat} {x0 : SV} (h0 : x0 = (li (↑k : Int))) : Tc_eqCoreSLa A B x0 = Lc_eqCoreSLa A B k := by
  rw [h0]
  rfl
theorem EW1c_eqCoreSLa {A : List Core} {B : List Core} {x0 y0 : SV} (h0 : x0 = y0) : W1c_eqCoreSLa A B x0 = W1c_eqCoreSLa A B y0 := by rw [h0]
theorem run_c_eqCoreSLa (A : List Core) (B : List Core) (k : Nat) : aexec Try.prog (loopAt Try.f171 0) (Lc_eqCoreSLa A B k) [Orc.br [Orc.draw [], Orc.cells (coreF (List.getD A k
 default)), Orc.cells (coreF (List.getD B k default)), Orc.call [Mode.rd, Mode.rd] [] (AV.sv (lb (decide (List.getD A k default = List.getD B k default)))), Orc.br [Orc.ghost
 (Ghost.sel [] [4]), Orc.out 1] [Orc.ghost (Ghost.sel [] [0, 1, 5]), Orc.goto (List.length A - (k + 1)) (Lc_eqCoreSLa A B (k + 1))]] [Orc.ghost (Ghost.sel [] []), Orc.out 0]]
 (loopK (Ic_eqCoreSLa A B) (Yc_eqCoreSLa A B) (List.length A - k)) = (List.length (List.map coreC A) ≤ 9223372036854775807 → (decide ((↑k : Int) < (↑(List.length (List.map coreC
 A)) : Int)) = true → (0 ≤ (↑k : Int) ∧ (List.map coreC A)[Int.toNat (↑k : Int)]? = some (coreF (List.getD A k default))) ∧ (0 ≤ (↑k : Int) ∧ (List.map coreC B)[Int.toNat (↑k :
 Int)]? = some (coreF (List.getD B k default))) ∧ P_c_eqCore (List.getD A k default) (List.getD B k default) ∧ ((!decide (List.getD A k default = List.getD B k default)) = true → A
 ≠ B ∧ W1c_eqCoreSLa A B (lb false) = W1c_eqCoreSLa A B (lb false)) ∧ ((!decide (List.getD A k default = List.getD B k default)) = false → rng IntKind.i64 ((↑k : Int) + 1) ∧
 List.length A - (k + 1) < List.length A - k ∧ Tc_eqCoreSLa A B (li ((↑k : Int) + 1)) = Lc_eqCoreSLa A B (k + 1) ∧ Ic_eqCoreSLa A B (List.length A - (k + 1)) (Lc_eqCoreSLa A B (k +
 1)))) ∧ (decide ((↑k : Int) < (↑(List.length (List.map coreC A)) : Int)) = false → A = B ∧ W0c_eqCoreSLa A B = W0c_eqCoreSLa A B)) := by kernel_rfl
theorem Sc_eqCoreSLa (A : List Core) (B : List Core) (ih : ∀ (x : Core), x ∈ A → ∀ (y : Core), P_c_eqCore x y)  : LoopSem Try.prog (loopAt Try.f171 0) (Ic_eqCoreSLa A B)
 (Yc_eqCoreSLa A B) := by
  refine LoopSem.ofHead wide fun k h => ⟨_, _, run_c_eqCoreSLa A B k, ?_⟩
  with_reducible repeat' (first | apply And.intro | exact flatI | exact flatS | exact rowLens | exact ih | (intro; skip) | apply obsN | apply obsC | apply obA | apply obM | apply obB | apply svA | apply tupA | apply lcA | apply lcS | apply svC | apply liC | apply lbC | apply lsC | apply vIc | apply vBc | apply vSc | apply vLc | apply mapC | apply Hc_eqCoreSLa | apply Ec_eqCoreSLa | apply EW1c_eqCoreSLa | apply ih)
  all_goals (try simp only [std] at *)
  all_goals (try (first | with_reducible rfl | omega | assumption | (refine (decide_eq_true ?_).symm; assumption) | (refine (decide_eq_false ?_).symm; assumption) | (refine rowGet ?_; (first | omega | (simp only [std]; omega) | grind)) | (refine getC ?_ rfl; (first | omega | (simp only [std]; omega) | grind)) | (refine fill_step ?_ ?_; (first | omega | (simp only [std]; omega) | grind); (first | rfl | exact (Row.eq _).trans rfl)) | (refine fill_init ?_; (first | rfl | exact (Row.eq _).trans rfl)) | grind [take_eq, getD_mem', snocI, snocS, rowSnoc]))
theorem run_c_eqCoreS (A : List Core) (B : List Core) : aexec Try.prog (Option.getD (Func.body Try.f171) Code.skip) (entry [] [ll (List.map coreC A), ll (List.map coreC B)] 27)
 [Orc.br [Orc.fin []] [Orc.ghost (Ghost.sel [] [0, 1, 5]), Orc.loop (List.length A - 0) (Lc_eqCoreSLa A B 0) (Ic_eqCoreSLa A B) [(A = B, AEx.exit 0, W0c_eqCoreSLa A B, [Orc.fin
 []]), (A ≠ B, AEx.ret, W1c_eqCoreSLa A B (lb false), [Orc.fin []])]]] (finK Try.prog [ResultVar.tmp 4] [] (AV.sv (lb (decide (A = B))))) = (List.length (List.map coreC A) ≤
 9223372036854775807 → List.length (List.map coreC B) ≤ 9223372036854775807 → (decide ((↑(List.length (List.map coreC A)) : Int) ≠ (↑(List.length (List.map coreC B)) : Int)) = true
 → ObsEq [] [] ∧ AV.sv (lb false) = AV.sv (lb (decide (A = B)))) ∧ (decide ((↑(List.length (List.map coreC A)) : Int) ≠ (↑(List.length (List.map coreC B)) : Int)) = false →
 Tc_eqCoreSLa A B (li 0) = Lc_eqCoreSLa A B 0 ∧ Ic_eqCoreSLa A B (List.length A - 0) (Lc_eqCoreSLa A B 0) ∧ LoopSem Try.prog (loopAt Try.f171 0) (Ic_eqCoreSLa A B) (Yc_eqCoreSLa A
 B) ∧ (A = B → ObsEq [] [] ∧ AV.sv (lb true) = AV.sv (lb (decide (A = B)))) ∧ ((A = B → False) → ObsEq [] [] ∧ AV.sv (lb false) = AV.sv (lb (decide (A = B)))) ∧ True)) := by
 kernel_rfl
theorem c_eqCoreS (A B : List Core) (ih : ∀ x ∈ A, ∀ (y : Core), P_c_eqCore x y)  : P_c_eqCoreS A B := by
  refine CallOK.ofRun wide (run_c_eqCoreS A B) Try.call171 Try.func171 rfl rfl rfl ?_
  with_reducible repeat' (first | apply And.intro | exact flatI | exact flatS | exact rowLens | exact ih | (intro; skip) | apply obsN | apply obsC | apply obA | apply obM | apply obB | apply svA | apply tupA | apply lcA | apply lcS | apply svC | apply liC | apply lbC | apply lsC | apply vIc | apply vBc | apply vSc | apply vLc | apply mapC | apply Hc_eqCoreSLa | apply Ec_eqCoreSLa | apply Sc_eqCoreSLa | apply EW1c_eqCoreSLa)
  all_goals (try simp only [std] at *)
  all_goals (try (first | with_reducible rfl | omega | assumption | (refine (decide_eq_true ?_).symm; assumption) | (refine (decide_eq_false ?_).symm; assumption) | (refine rowGet ?_; (first | omega | (simp only [std]; omega) | grind)) | (refine getC ?_ rfl; (first | omega | (simp only [std]; omega) | grind)) | (refine fill_step ?_ ?_; (first | omega | (simp only [std]; omega) | grind); (first | rfl | exact (Row.eq _).trans rfl)) | (refine fill_init ?_; (first | rfl | exact (Row.eq _).trans rfl)) | grind [snocI, snocS, rowSnoc]))
theorem run_c_eqCore_s (x : Core) (y : Core) : aexec Try.prog (Option.getD (Func.body Try.f63) Code.skip) (entry [] [coreA x, coreA y] 33) [Orc.br [Orc.fin []] [Orc.br [Orc.fin []]
 [Orc.call [Mode.rd, Mode.rd] [] (AV.sv (lb (decide (Core.params x = Core.params y)))), Orc.br [Orc.fin []] [Orc.call [Mode.rd, Mode.rd] [] (AV.sv (lb (decide (Core.datum x =
 Core.datum y)))), Orc.br [Orc.fin []] [Orc.call [Mode.rd, Mode.rd] [] (AV.sv (lb (decide (Core.kids x = Core.kids y)))), Orc.br [Orc.fin []] [Orc.fin []]]]]]] (finK Try.prog
 [ResultVar.tmp 4] [] (AV.sv (lb (decide (x = y))))) = ((decide (Core.kind x ≠ Core.kind y) = true → ObsEq [] [] ∧ AV.sv (lb false) = AV.sv (lb (decide (x = y)))) ∧ (decide
 (Core.kind x ≠ Core.kind y) = false → (decide (Core.number x ≠ Core.number y) = true → ObsEq [] [] ∧ AV.sv (lb false) = AV.sv (lb (decide (x = y)))) ∧ (decide (Core.number x ≠
 Core.number y) = false → P_c_eqIntS (Core.params x) (Core.params y) ∧ ((!decide (Core.params x = Core.params y)) = true → ObsEq [] [] ∧ AV.sv (lb false) = AV.sv (lb (decide (x =
 y)))) ∧ ((!decide (Core.params x = Core.params y)) = false → P_c_eqDatum (Core.datum x) (Core.datum y) ∧ ((!decide (Core.datum x = Core.datum y)) = true → ObsEq [] [] ∧ AV.sv (lb
 false) = AV.sv (lb (decide (x = y)))) ∧ ((!decide (Core.datum x = Core.datum y)) = false → P_c_eqCoreS (Core.kids x) (Core.kids y) ∧ ((!decide (Core.kids x = Core.kids y)) = true
 → ObsEq [] [] ∧ AV.sv (lb false) = AV.sv (lb (decide (x = y)))) ∧ ((!decide (Core.kids x = Core.kids y)) = false → ObsEq [] [] ∧ AV.sv (lb true) = AV.sv (lb (decide (x =
 y))))))))) := by kernel_rfl
theorem c_eqCore_s (x y : Core) (ih : ∀ z ∈ x.kids, ∀ (y : Core), P_c_eqCore z y)  : P_c_eqCore x y := by
  refine CallOK.ofRun wide (run_c_eqCore_s x y) Try.call63 Try.func63 rfl rfl rfl ?_
  simp only [coreExt]
  with_reducible repeat' (first | apply And.intro | exact flatI | exact flatS | exact rowLens | exact ih | (intro; skip) | apply obsN | apply obsC | apply obA | apply obM | apply obB | apply svA | apply tupA | apply lcA | apply lcS | apply svC | apply liC | apply lbC | apply lsC | apply vIc | apply vBc | apply vSc | apply vLc | apply mapC | apply c_eqIntS | apply c_eqDatum | apply c_eqCoreS | apply ih)
  all_goals (try simp only [std] at *)
  all_goals (try (first | with_reducible rfl | omega | assumption | (refine (decide_eq_true ?_).symm; assumption) | (refine (decide_eq_false ?_).symm; assumption) | (refine rowGet ?_; (first | omega | (simp only [std]; omega) | grind)) | (refine getC ?_ rfl; (first | omega | (simp only [std]; omega) | grind)) | (refine fill_step ?_ ?_; (first | omega | (simp only [std]; omega) | grind); (first | rfl | exact (Row.eq _).trans rfl)) | (refine fill_init ?_; (first | rfl | exact (Row.eq _).trans rfl)) | grind [bytes_ext, snocI, snocS, rowSnoc]))
theorem c_eqCore (x : Core) : ∀ (y : Core), P_c_eqCore x y := Core.ind (P := fun x => ∀ (y : Core), P_c_eqCore x y) (fun x ih y => c_eqCore_s x y ih) x
abbrev P_c_eqUnit (x : Unit) (y : Unit) : Prop := CallOK Try.prog 76 [] [unitA x, unitA y] [] (.sv (lb (decide (x = y))))
theorem run_c_eqUnit (x : Unit) (y : Unit) : aexec Try.prog (Option.getD (Func.body Try.f76) Code.skip) (entry [] [unitA x, unitA y] 22) [Orc.br [Orc.fin []] [Orc.call [Mode.rd,
 Mode.rd] [] (AV.sv (lb (decide (Unit.globals x = Unit.globals y)))), Orc.br [Orc.fin []] [Orc.call [Mode.rd, Mode.rd] [] (AV.sv (lb (decide (Unit.body x = Unit.body y)))), Orc.br
 [Orc.fin []] [Orc.fin []]]]] (finK Try.prog [ResultVar.tmp 4] [] (AV.sv (lb (decide (x = y))))) = ((decide (Array.toList (ByteArray.data (Unit.name x)) ≠ Array.toList
 (ByteArray.data (Unit.name y))) = true → ObsEq [] [] ∧ AV.sv (lb false) = AV.sv (lb (decide (x = y)))) ∧ (decide (Array.toList (ByteArray.data (Unit.name x)) ≠ Array.toList
 (ByteArray.data (Unit.name y))) = false → P_c_eqIntS (Unit.globals x) (Unit.globals y) ∧ ((!decide (Unit.globals x = Unit.globals y)) = true → ObsEq [] [] ∧ AV.sv (lb false) =
 AV.sv (lb (decide (x = y)))) ∧ ((!decide (Unit.globals x = Unit.globals y)) = false → P_c_eqCore (Unit.body x) (Unit.body y) ∧ ((!decide (Unit.body x = Unit.body y)) = true →
 ObsEq [] [] ∧ AV.sv (lb false) = AV.sv (lb (decide (x = y)))) ∧ ((!decide (Unit.body x = Unit.body y)) = false → ObsEq [] [] ∧ AV.sv (lb true) = AV.sv (lb (decide (x = y))))))) :=
 by kernel_rfl
theorem c_eqUnit (x y : Unit)  : P_c_eqUnit x y := by
  refine CallOK.ofRun wide (run_c_eqUnit x y) Try.call76 Try.func76 rfl rfl rfl ?_
  simp only [unitExt]
  with_reducible repeat' (first | apply And.intro | exact flatI | exact flatS | exact rowLens | (intro; skip) | apply obsN | apply obsC | apply obA | apply obM | apply obB | apply svA | apply tupA | apply lcA | apply lcS | apply svC | apply liC | apply lbC | apply lsC | apply vIc | apply vBc | apply vSc | apply vLc | apply mapC | apply c_eqIntS | apply c_eqCore)
  all_goals (try simp only [std] at *)
  all_goals (try (first | with_reducible rfl | omega | assumption | (refine (decide_eq_true ?_).symm; assumption) | (refine (decide_eq_false ?_).symm; assumption) | (refine rowGet ?_; (first | omega | (simp only [std]; omega) | grind)) | (refine getC ?_ rfl; (first | omega | (simp only [std]; omega) | grind)) | (refine fill_step ?_ ?_; (first | omega | (simp only [std]; omega) | grind); (first | rfl | exact (Row.eq _).trans rfl)) | (refine fill_init ?_; (first | rfl | exact (Row.eq _).trans rfl)) | grind [bytes_ext, snocI, snocS, rowSnoc]))
abbrev P_c_eqUnitS (A : List Unit) (B : List Unit) : Prop := CallOK Try.prog 29 [] [ll (A.map unitC), ll (B.map unitC)] [] (.sv (lb (decide (A = B))))
def Tc_eqUnitSLa (A : List Unit) (B : List Unit) (x0 : SV) : St := St.mk (regsOf 27 [(0, AV.sv (ll (List.map unitC A))), (1, AV.sv (ll (List.map unitC B))), (5, AV.sv x0)]) [] 0 
def Lc_eqUnitSLa (A : List Unit) (B : List Unit) (k : Nat) : St := Tc_eqUnitSLa A B (li (↑k : Int)) 
def Ic_eqUnitSLa (A : List Unit) (B : List Unit) : Nat → St → Prop := Head (Lc_eqUnitSLa A B) (fun k => k ≤ List.length A ∧ List.length A ≤ 9223372036854775807 ∧ List.length A =
 List.length B ∧ List.take k A = List.take k B) fun k => List.length A - k 
def W0c_eqUnitSLa (A : List Unit) (B : List Unit) : St := St.mk (regsOf 27 []) [] 0 
def W1c_eqUnitSLa (A : List Unit) (B : List Unit) (x0 : SV) : St := St.mk (regsOf 27 [(4, AV.sv x0)]) [] 0 
def Yc_eqUnitSLa (A : List Unit) (B : List Unit) : List (Prop × AEx × St) := [(A = B, AEx.exit 0, W0c_eqUnitSLa A B), (A ≠ B, AEx.ret, W1c_eqUnitSLa A B (lb false))]
theorem Hc_eqUnitSLa {A : List Unit} {B : List Unit} {k : Nat} {m : Nat} (h : (fun k => k ≤ List.length A ∧ List.length A ≤ 9223372036854775807 ∧ List.length A = List.length B ∧
 List.take k A = List.take k B) k) (hm : (fun k => List.length A - k) k = m) : Ic_eqUnitSLa A B m (Lc_eqUnitSLa A B k) := hm ▸ Head.mk h
theorem Ec_eqUnitSLa {A : List Unit} {B : List Unit} {k : Nat} {x0 : SV} (h0 : x0 = (li (↑k : Int))) : Tc_eqUnitSLa A B x0 = Lc_eqUnitSLa A B k := by
  rw [h0]
  rfl
theorem EW1c_eqUnitSLa {A : List Unit} {B : List Unit} {x0 y0 : SV} (h0 : x0 = y0) : W1c_eqUnitSLa A B x0 = W1c_eqUnitSLa A B y0 := by rw [h0]
theorem run_c_eqUnitSLa (A : List Unit) (B : List Unit) (k : Nat) : aexec Try.prog (loopAt Try.f29 0) (Lc_eqUnitSLa A B k) [Orc.br [Orc.draw [], Orc.cells (unitF (List.getD A k
 default)), Orc.cells (unitF (List.getD B k default)), Orc.call [Mode.rd, Mode.rd] [] (AV.sv (lb (decide (List.getD A k default = List.getD B k default)))), Orc.br [Orc.ghost
 (Ghost.sel [] [4]), Orc.out 1] [Orc.ghost (Ghost.sel [] [0, 1, 5]), Orc.goto (List.length A - (k + 1)) (Lc_eqUnitSLa A B (k + 1))]] [Orc.ghost (Ghost.sel [] []), Orc.out 0]]
 (loopK (Ic_eqUnitSLa A B) (Yc_eqUnitSLa A B) (List.length A - k)) = (List.length (List.map unitC A) ≤ 9223372036854775807 → (decide ((↑k : Int) < (↑(List.length (List.map unitC
 A)) : Int)) = true → (0 ≤ (↑k : Int) ∧ (List.map unitC A)[Int.toNat (↑k : Int)]? = some (unitF (List.getD A k default))) ∧ (0 ≤ (↑k : Int) ∧ (List.map unitC B)[Int.toNat (↑k :
 Int)]? = some (unitF (List.getD B k default))) ∧ P_c_eqUnit (List.getD A k default) (List.getD B k default) ∧ ((!decide (List.getD A k default = List.getD B k default)) = true → A
 ≠ B ∧ W1c_eqUnitSLa A B (lb false) = W1c_eqUnitSLa A B (lb false)) ∧ ((!decide (List.getD A k default = List.getD B k default)) = false → rng IntKind.i64 ((↑k : Int) + 1) ∧
 List.length A - (k + 1) < List.length A - k ∧ Tc_eqUnitSLa A B (li ((↑k : Int) + 1)) = Lc_eqUnitSLa A B (k + 1) ∧ Ic_eqUnitSLa A B (List.length A - (k + 1)) (Lc_eqUnitSLa A B (k +
 1)))) ∧ (decide ((↑k : Int) < (↑(List.length (List.map unitC A)) : Int)) = false → A = B ∧ W0c_eqUnitSLa A B = W0c_eqUnitSLa A B)) := by kernel_rfl
theorem Sc_eqUnitSLa (A : List Unit) (B : List Unit)  : LoopSem Try.prog (loopAt Try.f29 0) (Ic_eqUnitSLa A B) (Yc_eqUnitSLa A B) := by
  refine LoopSem.ofHead wide fun k h => ⟨_, _, run_c_eqUnitSLa A B k, ?_⟩
  with_reducible repeat' (first | apply And.intro | exact flatI | exact flatS | exact rowLens | (intro; skip) | apply obsN | apply obsC | apply obA | apply obM | apply obB | apply svA | apply tupA | apply lcA | apply lcS | apply svC | apply liC | apply lbC | apply lsC | apply vIc | apply vBc | apply vSc | apply vLc | apply mapC | apply Hc_eqUnitSLa | apply Ec_eqUnitSLa | apply EW1c_eqUnitSLa | apply c_eqUnit)
  all_goals (try simp only [std] at *)
  all_goals (try (first | with_reducible rfl | omega | assumption | (refine (decide_eq_true ?_).symm; assumption) | (refine (decide_eq_false ?_).symm; assumption) | (refine rowGet ?_; (first | omega | (simp only [std]; omega) | grind)) | (refine getC ?_ rfl; (first | omega | (simp only [std]; omega) | grind)) | (refine fill_step ?_ ?_; (first | omega | (simp only [std]; omega) | grind); (first | rfl | exact (Row.eq _).trans rfl)) | (refine fill_init ?_; (first | rfl | exact (Row.eq _).trans rfl)) | grind [take_eq, getD_mem', snocI, snocS, rowSnoc]))
theorem run_c_eqUnitS (A : List Unit) (B : List Unit) : aexec Try.prog (Option.getD (Func.body Try.f29) Code.skip) (entry [] [ll (List.map unitC A), ll (List.map unitC B)] 27)
 [Orc.br [Orc.fin []] [Orc.ghost (Ghost.sel [] [0, 1, 5]), Orc.loop (List.length A - 0) (Lc_eqUnitSLa A B 0) (Ic_eqUnitSLa A B) [(A = B, AEx.exit 0, W0c_eqUnitSLa A B, [Orc.fin
 []]), (A ≠ B, AEx.ret, W1c_eqUnitSLa A B (lb false), [Orc.fin []])]]] (finK Try.prog [ResultVar.tmp 4] [] (AV.sv (lb (decide (A = B))))) = (List.length (List.map unitC A) ≤
 9223372036854775807 → List.length (List.map unitC B) ≤ 9223372036854775807 → (decide ((↑(List.length (List.map unitC A)) : Int) ≠ (↑(List.length (List.map unitC B)) : Int)) = true
 → ObsEq [] [] ∧ AV.sv (lb false) = AV.sv (lb (decide (A = B)))) ∧ (decide ((↑(List.length (List.map unitC A)) : Int) ≠ (↑(List.length (List.map unitC B)) : Int)) = false →
 Tc_eqUnitSLa A B (li 0) = Lc_eqUnitSLa A B 0 ∧ Ic_eqUnitSLa A B (List.length A - 0) (Lc_eqUnitSLa A B 0) ∧ LoopSem Try.prog (loopAt Try.f29 0) (Ic_eqUnitSLa A B) (Yc_eqUnitSLa A
 B) ∧ (A = B → ObsEq [] [] ∧ AV.sv (lb true) = AV.sv (lb (decide (A = B)))) ∧ ((A = B → False) → ObsEq [] [] ∧ AV.sv (lb false) = AV.sv (lb (decide (A = B)))) ∧ True)) := by
 kernel_rfl
theorem c_eqUnitS (A B : List Unit)  : P_c_eqUnitS A B := by
  refine CallOK.ofRun wide (run_c_eqUnitS A B) Try.call29 Try.func29 rfl rfl rfl ?_
  with_reducible repeat' (first | apply And.intro | exact flatI | exact flatS | exact rowLens | (intro; skip) | apply obsN | apply obsC | apply obA | apply obM | apply obB | apply svA | apply tupA | apply lcA | apply lcS | apply svC | apply liC | apply lbC | apply lsC | apply vIc | apply vBc | apply vSc | apply vLc | apply mapC | apply Hc_eqUnitSLa | apply Ec_eqUnitSLa | apply Sc_eqUnitSLa | apply EW1c_eqUnitSLa | apply c_eqUnit)
  all_goals (try simp only [std] at *)
  all_goals (try (first | with_reducible rfl | omega | assumption | (refine (decide_eq_true ?_).symm; assumption) | (refine (decide_eq_false ?_).symm; assumption) | (refine rowGet ?_; (first | omega | (simp only [std]; omega) | grind)) | (refine getC ?_ rfl; (first | omega | (simp only [std]; omega) | grind)) | (refine fill_step ?_ ?_; (first | omega | (simp only [std]; omega) | grind); (first | rfl | exact (Row.eq _).trans rfl)) | (refine fill_init ?_; (first | rfl | exact (Row.eq _).trans rfl)) | grind [snocI, snocS, rowSnoc]))
end Go.Proofs.Ytehpjofddjmbpaa
end
section
namespace Go.Proofs.Ytehpjofddjmbpaa
open Go Go.Proofs.Ytehpjofddjmbpaa.Ab
set_option linter.unusedVariables false
set_option linter.unusedSimpArgs false
set_option maxHeartbeats 4000000
theorem globals_le : ∀ L : List Unit, (globals L).length ≤ sumBy wU L
  | [] => by simp [globals]
  | x :: r => by
    have h := globals_le r
    have g := wU_eq x
    simp only [globals, List.flatMap_cons, List.length_append, sumBy] at h ⊢; omega
abbrev P_c_LGlob (L : List Unit) : Prop := CallOK Try.prog 4 [] [ll (L.map unitC)] [] (.sv (lb true))
abbrev a1_c_LGlob (L : List Unit) := (1 + (↑(List.length (seqM mkI cOne (globals L) 1)) : Int) ≠ 1 + (↑(List.length (globals L)) : Int))
theorem run_c_LGlob (L : List Unit) : aexec Try.prog (Option.getD (Func.body Try.f4) Code.skip) (entry [] [ll (List.map unitC L)] 69) [Orc.call [Mode.rd, Mode.rd] [] (AV.sv (li (sz
 (List.length L + sumBy wU L) 1048576))), Orc.br [Orc.fin []] [Orc.call [Mode.rd] [Ob.arr true 10 (List.map unitC L)] (AV.sv (SV.one (AC.ref 0))), Orc.call [Mode.rd] [Ob.arr true 1
 (List.map intC (globals L))] (AV.sv (SV.one (AC.ref 0))), Orc.call [Mode.rd] [Ob.arr true 10 (List.map unitC L)] (AV.sv (SV.one (AC.ref 0))), Orc.call [Mode.rd] [Ob.arr true 1
 (List.map intC (globals L))] (AV.sv (SV.one (AC.ref 0))), Orc.call [Mode.rd, Mode.rd] [] (AV.sv (lb (decide (globals L = globals L)))), Orc.br [Orc.fin []] [Orc.call [Mode.rd]
 [Ob.arr true 10 (List.map unitC L)] (AV.sv (SV.one (AC.ref 0))), Orc.call [Mode.rd, Mode.rd] [] (AV.sv (lb (decide (L = L)))), Orc.br [Orc.fin []] [Orc.call [Mode.own true 10,
 Mode.rd] [Ob.arr true 10 (List.map unitC (seqM mkU cU L 1))] (AV.sv (li (1 + (↑(sumBy cU L) : Int)))), Orc.bool false, Orc.call [Mode.rd, Mode.rd] [] (AV.sv (lb (decide (globals L
 = globals L)))), Orc.br [Orc.fin []] [Orc.call [Mode.own true 1, Mode.rd] [Ob.arr true 1 (List.map intC (seqM mkI cOne (globals L) 1))] (AV.sv (li (1 + (↑(List.length (globals L))
 : Int)))), Orc.call [Mode.rd, Mode.rd] [] (AV.sv (li (1 + (↑(List.length (seqM mkI cOne (globals L) 1)) : Int)))), Orc.bool false, Orc.br [Orc.fin []] [Orc.call [Mode.rd] [Ob.arr
 true 10 (List.map unitC L)] (AV.sv (SV.one (AC.ref 0))), Orc.call [Mode.rd] [Ob.arr true 1 (List.map intC (globals L))] (AV.sv (SV.one (AC.ref 0))), Orc.call [Mode.rd, Mode.rd] []
 (AV.sv (lb (decide (globals L = globals L)))), Orc.br [Orc.fin []] [Orc.call [Mode.rd, Mode.rd] [] (AV.sv (li (1 + (↑(List.length (seqM mkI cOne (globals L) 1)) : Int)))),
 Orc.bool false, Orc.br [Orc.fin []] [Orc.fin []]]]]]]]] (finK Try.prog [ResultVar.tmp 2] [] (AV.sv (lb true))) = (P_c_szUnitS L 1048576 ∧ (decide (sz (List.length L + sumBy wU L)
 (1048576 : Int) < 0) = true → ObsEq [] [] ∧ AV.sv (lb true) = AV.sv (lb true)) ∧ (decide (sz (List.length L + sumBy wU L) (1048576 : Int) < 0) = false → P_c_toUnitS L ∧
 P_c_sGlobalsOf L ∧ P_c_toUnitS L ∧ P_c_iGlobalsOf L ∧ P_c_eqIntS (globals L) (globals L) ∧ ((!decide (globals L = globals L)) = true → ObsEq [] [] ∧ AV.sv (lb false) = AV.sv (lb
 true)) ∧ ((!decide (globals L = globals L)) = false → P_c_toUnitS L ∧ P_c_eqUnitS L L ∧ ((!decide (L = L)) = true → ObsEq [] [] ∧ AV.sv (lb false) = AV.sv (lb true)) ∧ ((!decide
 (L = L)) = false → P_c_markUnitS L 1 ∧ false = false ∧ P_c_eqIntS (globals L) (globals L) ∧ ((!decide (globals L = globals L)) = true → ObsEq [] [] ∧ AV.sv (lb false) = AV.sv (lb
 true)) ∧ ((!decide (globals L = globals L)) = false → P_c_markIntS (globals L) 1 ∧ P_c_heldIntS (seqM mkI cOne (globals L) 1) 1 ∧ false = false ∧ (decide (a1_c_LGlob L) = true →
 ObsEq [] [] ∧ AV.sv (lb false) = AV.sv (lb true)) ∧ (decide (a1_c_LGlob L) = false → P_c_toUnitS L ∧ P_c_iGlobalsOf L ∧ P_c_eqIntS (globals L) (globals L) ∧ ((!decide (globals L =
 globals L)) = true → ObsEq [] [] ∧ AV.sv (lb false) = AV.sv (lb true)) ∧ ((!decide (globals L = globals L)) = false → P_c_heldIntS (seqM mkI cOne (globals L) 1) 1 ∧ false = false
 ∧ (decide (a1_c_LGlob L) = true → ObsEq [] [] ∧ AV.sv (lb false) = AV.sv (lb true)) ∧ (decide (a1_c_LGlob L) = false → ObsEq [] [] ∧ AV.sv (lb true) = AV.sv (lb true))))))))) :=
 by kernel_rfl
theorem c_LGlob (L : List Unit)  : P_c_LGlob L := by
  refine CallOK.ofRun wide (run_c_LGlob L) Try.call4 Try.func4 rfl rfl rfl ?_
  try delta a1_c_LGlob
  have h1 := globals_le L
  have h2 := sumBy_le16 L fun x _ => cU_le x
  with_reducible repeat' (first | apply And.intro | exact flatI | exact flatS | exact rowLens | (intro; skip) | apply obsN | apply obsC | apply obA | apply obM | apply obB | apply svA | apply tupA | apply lcA | apply lcS | apply svC | apply liC | apply lbC | apply lsC | apply vIc | apply vBc | apply vSc | apply vLc | apply mapC | apply c_szUnitS | apply c_toUnitS | apply c_eqUnitS | apply c_sGlobalsOf | apply c_iGlobalsOf | apply c_eqIntS | apply c_markUnitS | apply c_markIntS | apply c_heldIntS)
  all_goals (try simp only [std, stdM] at *)
  all_goals (try (first | with_reducible rfl | omega | assumption | (refine (decide_eq_true ?_).symm; assumption) | (refine (decide_eq_false ?_).symm; assumption) | (refine rowGet ?_; (first | omega | (simp only [std, stdM]; omega) | grind)) | (refine getC ?_ rfl; (first | omega | (simp only [std, stdM]; omega) | grind)) | (refine fill_step ?_ ?_; (first | omega | (simp only [std, stdM]; omega) | grind); (first | rfl | exact (Row.eq _).trans rfl)) | (refine fill_init ?_; (first | rfl | exact (Row.eq _).trans rfl)) | (refine set_row ?_; (simp only [List.length_map, List.length_set, mkTo_len]; omega)) | (refine mkToRow ?_; (first | omega | (simp only [std, stdM]; omega) | grind)) | (refine mkTo_row ?_ rfl; (first | omega | (simp only [std, stdM]; omega) | grind)) | (refine mkTo_step ?_ ?_; (first | omega | (simp only [std, stdM]; omega) | grind); (first | grind [sz, seqM_idem, seqM_len, snocI, snocS, rowSnoc])) | grind [sz, seqM_idem, seqM_len, snocI, snocS, rowSnoc]))
end Go.Proofs.Ytehpjofddjmbpaa
end
section
namespace Go.Proofs.Ytehpjofddjmbpaa.fnExactGlobalsOf
open Go Go.ChangeShapes Go.WideShapes Go.ChangeAt Go.RowKit Go.Proofs.Ytehpjofddjmbpaa.Ab
set_option linter.unusedVariables false
theorem own : ownKnob Try.prog.godebug = none := by kernel_rfl
theorem laid : laidOutB Try.prog = true := by kernel_rfl
theorem rowed : mapsRowed Try.prog = true := by kernel_rfl
theorem sized : ((List.range Try.prog.types.size).all fun t => match Try.prog.underlying t with | some (.slice e) => decide (0 < Try.prog.cellsOf e) | _ => true) = true := by kernel_rfl
set_option maxRecDepth 100000 in
theorem lifted (os : Os) (started : os.Started) (H : Type) (enc : TypeId × Value → H) :
    ReturnsInHanded {} Try.checked os 4 .any (Rows.fnExactGlobalsOfSpec.pre6 enc Try.prog Try.f4 Rows.fnExactGlobalsOfRow.domain false) (Rows.fnExactGlobalsOfSpec.post enc Try.prog Try.f4 false true false false) := by
  refine returnsInHanded_of_change (C := Try.checked) own started (by kernel_rfl) Try.func4
    (ChangeSpec.witness6 (enc := enc) (C := Try.checked) false ⟨#[], #[.slice none 0 0], []⟩ 12 (by kernel_rfl) (by kernel_rfl) (by kernel_rfl) (by kernel_rfl)) ?_
  intro W base args ds gs before hval0 hW hcnd _
  have hval : ∀ (j : Nat) t v, Try.f4.params[j]? = some t → args[j]? = some v → Value.okWide Try.prog W .any base t v := hval0
  have hW' := hW
  obtain ⟨p, q, hA0, hV, rfl, hfz, hnd⟩ := hW
  obtain ⟨rfl, rfl⟩ := trodVars_none hV
  have hA : DataW.TrodAll enc Try.prog W 0 (fun _ => true) true Try.f4.params.toList args.toList ds p := hA0
  rw [Try.params4] at hA hval
  have hA2 := hA
  clear hA0 hval0
  obtain ⟨v0, vs0, d0, ds0, p0, q0, hargs0, rfl, rfl, h0, r0⟩ := trodAll_cons hA
  obtain ⟨rfl, rfl, rfl⟩ := trodAll_nil r0
  obtain rfl : args = #[v0] := by cases args; simp_all
  obtain ⟨a0, c0⟩ := (let ⟨fuel, hf⟩ := h0; rd_slice (C := unitC) Try.underlying30 (by rw [show Try.prog.cellsOf 116 = 10 from by kernel_rfl]; decide) (fun a => by rw [unitC_eq]; kernel_rfl) (fun m hm cs x h => by obtain ⟨a, ha⟩ := rd_unit m cs x h; exact ⟨a, by rw [unitC_eq]; exact ha⟩) hf)
  have s0 : SVRel W (allI W) (obOf []) (ll (a0.map unitC)) v0 := one_rel (by obtain ⟨_, _, _, rfl⟩ := okWide_slice Try.underlying30 (hval 0 30 v0 rfl rfl); rfl) c0
  refine (CallOK.kept (w := W) (vals := #[v0]) (c_LGlob a0) ⟨s0, trivial⟩).mono fun e W' ⟨he, hg, _⟩ => ?_
  subst he
  exact ⟨_, rfl, post_of_kept (pv := []) hW' (fun _ _ _ => (trodAll_cons_mk (shut_bool Try.underlying4 _) trodAll_mk0))
    (fun sp hsp => trodAll_kept laid rowed sized hg (by decide +kernel) hA2 fun y hy => hsp y (by simpa using hy)) (fun _ _ => rfl) rfl
    hg (ok_one (by kernel_rfl) rfl (okWide_bool_mk Try.underlying4 _))⟩
set_option maxRecDepth 100000 in
set_option maxHeartbeats 0 in
theorem facts : joinedFacts Try.pinned.checked.prog 4 Try.f4 Rows.fnExactGlobalsOfSpec Rows.fnExactGlobalsOfRow = true := by
  delta joinedFacts
  with_reducible repeat' apply and_i
  all_goals (first | with_reducible exact enters | (rw [makes]; kernel_rfl) | (rw [lifts]; kernel_rfl) | decide +kernel)
theorem over : Rows.fnExactGlobalsOfRow.holds Try.pinned (OpenSpec.ofChange Rows.fnExactGlobalsOfSpec) :=
  OpenClaim.holds_of_wide 4 Try.f4 rfl rfl rfl rfl rfl rfl rfl ⟨rfl, rfl, rfl, rfl, rfl⟩ rfl rfl rfl rfl rfl (by kernel_rfl) Try.func4 facts
    (of_decide_eq_true (by kernel_rfl)) (by unfold Func.isWrapper; first | (rw [if_pos (by decide +kernel)]; kernel_rfl) | (rw [if_neg (by decide +kernel)]; exact ⟨rfl, rfl⟩))
    (fun os started H enc _ => lifted os started H enc)
theorem proved : Rows.FnExactGlobalsOfSaid :=
  over
end Go.Proofs.Ytehpjofddjmbpaa.fnExactGlobalsOf
end
