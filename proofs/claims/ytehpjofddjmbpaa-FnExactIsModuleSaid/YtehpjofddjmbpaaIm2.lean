/- The law FnExactIsModule holds: IsModule answers as the reference's does. No condition. -/
import Derived.Test.YtehpjofddjmbpaaIm1
section
namespace Go.Proofs.Ytehpjofddjmbpaa
open Go Go.Proofs.Ytehpjofddjmbpaa.Ab
set_option linter.unusedVariables false
set_option linter.unusedSimpArgs false
set_option maxHeartbeats 4000000
abbrev P_c_toStringS (L : List ByteArray) : Prop := CallOK Try.prog 124 [] [ll (L.map strC)] [.arr true 1 (L.map strC)] (.sv (.one (.ref 0)))
def Tc_toStringSLa (L : List ByteArray) (x0 : SV) (x1 : Ob) : St := St.mk (regsOf 22 [(0, AV.sv (ll (List.map strC L))), (3, AV.sv (SV.one (AC.ref 0))), (4, AV.sv x0)]) [x1] 0 
def Lc_toStringSLa (L : List ByteArray) (k : Nat) : St := Tc_toStringSLa L (li (↑k : Int)) (Ob.arr true 1 (List.map strC (fillTo L k))) 
def Ic_toStringSLa (L : List ByteArray) : Nat → St → Prop := Head (Lc_toStringSLa L) (fun k => k ≤ List.length L ∧ List.length L ≤ 9223372036854775807) fun k => List.length L - k 
def W0c_toStringSLa (L : List ByteArray) (x0 : Ob) : St := St.mk (regsOf 22 [(3, AV.sv (SV.one (AC.ref 0)))]) [x0] 0 
def Yc_toStringSLa (L : List ByteArray) : List (Prop × AEx × St) := [(True, AEx.exit 0, W0c_toStringSLa L (Ob.arr true 1 (List.map strC L)))]
theorem Hc_toStringSLa {L : List ByteArray} {k : Nat} {m : Nat} (h : (fun k => k ≤ List.length L ∧ List.length L ≤ 9223372036854775807) k) (hm : (fun k => List.length L - k) k = m)
 : Ic_toStringSLa L m (Lc_toStringSLa L k) := hm ▸ Head.mk h
theorem Ec_toStringSLa {L : List ByteArray} {k : Nat} {x0 : SV} {x1 : Ob} (h0 : x0 = (li (↑k : Int))) (h1 : x1 = (Ob.arr true 1 (List.map strC (fillTo L k)))) : Tc_toStringSLa L x0
 x1 = Lc_toStringSLa L k := by
  rw [h0, h1]
  rfl
theorem EW0c_toStringSLa {L : List ByteArray} {x0 y0 : Ob} (h0 : x0 = y0) : W0c_toStringSLa L x0 = W0c_toStringSLa L y0 := by rw [h0]
theorem run_c_toStringSLa (L : List ByteArray) (k : Nat) : aexec Try.prog (loopAt Try.f124 0) (Lc_toStringSLa L k) [Orc.br [Orc.cells (strC (List.getD L k default)), Orc.cells
 (strC (List.getD (fillTo L k) (Int.toNat (↑k : Int)) default)), Orc.ghost (Ghost.sel [0] [0, 3, 4]), Orc.goto (List.length L - (k + 1)) (Lc_toStringSLa L (k + 1))] [Orc.ghost
 (Ghost.sel [0] [3]), Orc.out 0]] (loopK (Ic_toStringSLa L) (Yc_toStringSLa L) (List.length L - k)) = (List.length (List.map strC L) ≤ 9223372036854775807 → (decide ((↑k : Int) <
 (↑(List.length (List.map strC L)) : Int)) = true → (0 ≤ (↑k : Int) ∧ (List.map strC L)[Int.toNat (↑k : Int)]? = some [cS (List.getD L k default)]) ∧ (0 ≤ (↑k : Int) ∧ Int.toNat
 (↑k : Int) < List.length (List.map strC (fillTo L k))) ∧ (List.map strC (fillTo L k))[Int.toNat (↑k : Int)]? = some [cS (List.getD (fillTo L k) (Int.toNat (↑k : Int)) default)] ∧
 rng IntKind.i64 ((↑k : Int) + 1) ∧ List.length L - (k + 1) < List.length L - k ∧ Tc_toStringSLa L (li ((↑k : Int) + 1)) (Ob.arr true 1 (List.set (List.map strC (fillTo L k))
 (Int.toNat (↑k : Int)) [cS (List.getD L k default)])) = Lc_toStringSLa L (k + 1) ∧ Ic_toStringSLa L (List.length L - (k + 1)) (Lc_toStringSLa L (k + 1))) ∧ (decide ((↑k : Int) <
 (↑(List.length (List.map strC L)) : Int)) = false → True ∧ W0c_toStringSLa L (Ob.arr true 1 (List.map strC (fillTo L k))) = W0c_toStringSLa L (Ob.arr true 1 (List.map strC L))))
 := by kernel_rfl
theorem Sc_toStringSLa (L : List ByteArray) (h : List.length L ≤ 1048576)  : LoopSem Try.prog (loopAt Try.f124 0) (Ic_toStringSLa L) (Yc_toStringSLa L) := by
  refine LoopSem.ofHead wide fun k h => ⟨_, _, run_c_toStringSLa L k, ?_⟩
  with_reducible repeat' (first | apply And.intro | exact flatI | exact flatS | exact rowLens | (intro; skip) | apply obsN | apply obsC | apply obA | apply obM | apply obB | apply svA | apply tupA | apply lcA | apply lcS | apply svC | apply liC | apply lbC | apply lsC | apply vIc | apply vBc | apply vSc | apply vLc | apply mapC | apply Hc_toStringSLa | apply Ec_toStringSLa | apply EW0c_toStringSLa)
  all_goals (try simp only [std] at *)
  all_goals (try (first | with_reducible rfl | omega | assumption | (refine (decide_eq_true ?_).symm; assumption) | (refine (decide_eq_false ?_).symm; assumption) | (refine rowGet ?_; (first | omega | (simp only [std]; omega) | grind)) | (refine getC ?_ rfl; (first | omega | (simp only [std]; omega) | grind)) | (refine fill_step ?_ ?_; (first | omega | (simp only [std]; omega) | grind); (first | rfl | exact (Row.eq _).trans rfl)) | (refine fill_init ?_; (first | rfl | exact (Row.eq _).trans rfl)) | grind [fillTo_all, snocI, snocS, rowSnoc]))
theorem run_c_toStringS (L : List ByteArray) : aexec Try.prog (Option.getD (Func.body Try.f124) Code.skip) (entry [] [ll (List.map strC L)] 22) [Orc.ghost (Ghost.sel [0] [0, 3,
 4]), Orc.loop (List.length L - 0) (Lc_toStringSLa L 0) (Ic_toStringSLa L) [(True, AEx.exit 0, W0c_toStringSLa L (Ob.arr true 1 (List.map strC L)), [Orc.fin [0]])]] (finK Try.prog
 [ResultVar.tmp 2] [Ob.arr true 1 (List.map strC L)] (AV.sv (SV.one (AC.ref 0)))) = (List.length (List.map strC L) ≤ 9223372036854775807 → (0 ≤ (↑(List.length (List.map strC L)) :
 Int) ∧ 16 * Int.toNat (↑(List.length (List.map strC L)) : Int) ≤ 281474976710656) ∧ Tc_toStringSLa L (li 0) (Ob.arr true 1 (List.replicate (Int.toNat (↑(List.length (List.map strC
 L)) : Int)) [cS (ByteArray.mk #[])])) = Lc_toStringSLa L 0 ∧ Ic_toStringSLa L (List.length L - 0) (Lc_toStringSLa L 0) ∧ LoopSem Try.prog (loopAt Try.f124 0) (Ic_toStringSLa L)
 (Yc_toStringSLa L) ∧ (True → ObsEq [Ob.arr true 1 (List.map strC L)] [Ob.arr true 1 (List.map strC L)] ∧ AV.sv (SV.one (AC.ref 0)) = AV.sv (SV.one (AC.ref 0))) ∧ True) := by
 kernel_rfl
theorem c_toStringS (L : List ByteArray) (h : L.length ≤ 1048576)  : P_c_toStringS L := by
  refine CallOK.ofRun wide (run_c_toStringS L) Try.call124 Try.func124 rfl rfl rfl ?_
  with_reducible repeat' (first | apply And.intro | exact flatI | exact flatS | exact rowLens | (intro; skip) | apply obsN | apply obsC | apply obA | apply obM | apply obB | apply svA | apply tupA | apply lcA | apply lcS | apply svC | apply liC | apply lbC | apply lsC | apply vIc | apply vBc | apply vSc | apply vLc | apply mapC | apply Hc_toStringSLa | apply Ec_toStringSLa | apply Sc_toStringSLa | apply EW0c_toStringSLa)
  all_goals (try simp only [std] at *)
  all_goals (try (first | with_reducible rfl | omega | assumption | (refine (decide_eq_true ?_).symm; assumption) | (refine (decide_eq_false ?_).symm; assumption) | (refine rowGet ?_; (first | omega | (simp only [std]; omega) | grind)) | (refine getC ?_ rfl; (first | omega | (simp only [std]; omega) | grind)) | (refine fill_step ?_ ?_; (first | omega | (simp only [std]; omega) | grind); (first | rfl | exact (Row.eq _).trans rfl)) | (refine fill_init ?_; (first | rfl | exact (Row.eq _).trans rfl)) | grind [snocI, snocS, rowSnoc]))
abbrev P_c_toDatumS (L : List Datum) : Prop := CallOK Try.prog 125 [] [ll (L.map datumC)] [.arr true 4 (L.map datumC)] (.sv (.one (.ref 0)))
abbrev P_c_toDatum (x : Datum) : Prop := CallOK Try.prog 44 [] [datumA x] (datumO x) (.sv (datumR x 0))
def Tc_toDatumSLa (L : List Datum) (x0 : SV) (x1 : Ob) : St := St.mk (regsOf 23 [(0, AV.sv (ll (List.map datumC L))), (3, AV.sv (SV.one (AC.ref 0))), (4, AV.sv x0)]) [x1] 0 
def Lc_toDatumSLa (L : List Datum) (k : Nat) : St := Tc_toDatumSLa L (li (↑k : Int)) (Ob.arr true 4 (List.map datumC (fillTo L k))) 
def Ic_toDatumSLa (L : List Datum) : Nat → St → Prop := Head (Lc_toDatumSLa L) (fun k => k ≤ List.length L ∧ List.length L ≤ 9223372036854775807) fun k => List.length L - k 
def W0c_toDatumSLa (L : List Datum) (x0 : Ob) : St := St.mk (regsOf 23 [(3, AV.sv (SV.one (AC.ref 0)))]) [x0] 0 
def Yc_toDatumSLa (L : List Datum) : List (Prop × AEx × St) := [(True, AEx.exit 0, W0c_toDatumSLa L (Ob.arr true 4 (List.map datumC L)))]
theorem Hc_toDatumSLa {L : List Datum} {k : Nat} {m : Nat} (h : (fun k => k ≤ List.length L ∧ List.length L ≤ 9223372036854775807) k) (hm : (fun k => List.length L - k) k = m) :
 Ic_toDatumSLa L m (Lc_toDatumSLa L k) := hm ▸ Head.mk h
theorem Ec_toDatumSLa {L : List Datum} {k : Nat} {x0 : SV} {x1 : Ob} (h0 : x0 = (li (↑k : Int))) (h1 : x1 = (Ob.arr true 4 (List.map datumC (fillTo L k)))) : Tc_toDatumSLa L x0 x1
 = Lc_toDatumSLa L k := by
  rw [h0, h1]
  rfl
theorem EW0c_toDatumSLa {L : List Datum} {x0 y0 : Ob} (h0 : x0 = y0) : W0c_toDatumSLa L x0 = W0c_toDatumSLa L y0 := by rw [h0]
theorem run_c_toDatumSLa (L : List Datum) (k : Nat) : aexec Try.prog (loopAt Try.f125 0) (Lc_toDatumSLa L k) [Orc.br [Orc.cells (datumF (List.getD L k default)), Orc.call [Mode.rd]
 (datumO (List.getD L k default)) (AV.sv (datumR (List.getD L k default) 0)), Orc.cells (datumF (List.getD (fillTo L k) (Int.toNat (↑k : Int)) default)), Orc.ghost (Ghost.sel [0]
 [0, 3, 4]), Orc.goto (List.length L - (k + 1)) (Lc_toDatumSLa L (k + 1))] [Orc.ghost (Ghost.sel [0] [3]), Orc.out 0]] (loopK (Ic_toDatumSLa L) (Yc_toDatumSLa L) (List.length L -
 k)) = (List.length (List.map datumC L) ≤ 9223372036854775807 → (decide ((↑k : Int) < (↑(List.length (List.map datumC L)) : Int)) = true → (0 ≤ (↑k : Int) ∧ (List.map datumC
 L)[Int.toNat (↑k : Int)]? = some (datumF (List.getD L k default))) ∧ P_c_toDatum (List.getD L k default) ∧ (0 ≤ (↑k : Int) ∧ Int.toNat (↑k : Int) < List.length (List.map datumC
 (fillTo L k))) ∧ (List.map datumC (fillTo L k))[Int.toNat (↑k : Int)]? = some (datumF (List.getD (fillTo L k) (Int.toNat (↑k : Int)) default)) ∧ rng IntKind.i64 ((↑k : Int) + 1) ∧
 List.length L - (k + 1) < List.length L - k ∧ Tc_toDatumSLa L (li ((↑k : Int) + 1)) (Ob.arr true 4 (List.set (List.map datumC (fillTo L k)) (Int.toNat (↑k : Int)) (datumF
 (List.getD L k default)))) = Lc_toDatumSLa L (k + 1) ∧ Ic_toDatumSLa L (List.length L - (k + 1)) (Lc_toDatumSLa L (k + 1))) ∧ (decide ((↑k : Int) < (↑(List.length (List.map datumC
 L)) : Int)) = false → True ∧ W0c_toDatumSLa L (Ob.arr true 4 (List.map datumC (fillTo L k))) = W0c_toDatumSLa L (Ob.arr true 4 (List.map datumC L)))) := by kernel_rfl
theorem Sc_toDatumSLa (L : List Datum) (h : List.length L + sumBy wD L ≤ 1048576) (ih : ∀ (x : Datum), x ∈ L → wD x ≤ 1048576 → P_c_toDatum x)  : LoopSem Try.prog (loopAt Try.f125
 0) (Ic_toDatumSLa L) (Yc_toDatumSLa L) := by
  refine LoopSem.ofHead wide fun k h => ⟨_, _, run_c_toDatumSLa L k, ?_⟩
  with_reducible repeat' (first | apply And.intro | exact flatI | exact flatS | exact rowLens | exact ih | (intro; skip) | apply obsN | apply obsC | apply obA | apply obM | apply obB | apply svA | apply tupA | apply lcA | apply lcS | apply svC | apply liC | apply lbC | apply lsC | apply vIc | apply vBc | apply vSc | apply vLc | apply mapC | apply Hc_toDatumSLa | apply Ec_toDatumSLa | apply EW0c_toDatumSLa | apply ih)
  all_goals (try simp only [std] at *)
  all_goals (try (first | with_reducible rfl | omega | assumption | (refine (decide_eq_true ?_).symm; assumption) | (refine (decide_eq_false ?_).symm; assumption) | (refine rowGet ?_; (first | omega | (simp only [std]; omega) | grind)) | (refine getC ?_ rfl; (first | omega | (simp only [std]; omega) | grind)) | (refine fill_step ?_ ?_; (first | omega | (simp only [std]; omega) | grind); (first | rfl | exact (Row.eq _).trans rfl)) | (refine fill_init ?_; (first | rfl | exact (Row.eq _).trans rfl)) | grind [fillTo_all, getD_mem', sumBy_mem, snocI, snocS, rowSnoc]))
theorem run_c_toDatumS (L : List Datum) : aexec Try.prog (Option.getD (Func.body Try.f125) Code.skip) (entry [] [ll (List.map datumC L)] 23) [Orc.ghost (Ghost.sel [0] [0, 3, 4]),
 Orc.loop (List.length L - 0) (Lc_toDatumSLa L 0) (Ic_toDatumSLa L) [(True, AEx.exit 0, W0c_toDatumSLa L (Ob.arr true 4 (List.map datumC L)), [Orc.fin [0]])]] (finK Try.prog
 [ResultVar.tmp 2] [Ob.arr true 4 (List.map datumC L)] (AV.sv (SV.one (AC.ref 0)))) = (List.length (List.map datumC L) ≤ 9223372036854775807 → (0 ≤ (↑(List.length (List.map datumC
 L)) : Int) ∧ 56 * Int.toNat (↑(List.length (List.map datumC L)) : Int) ≤ 281474976710656) ∧ Tc_toDatumSLa L (li 0) (Ob.arr true 4 (List.replicate (Int.toNat (↑(List.length
 (List.map datumC L)) : Int)) [cI 0, cI 0, cS (ByteArray.mk #[]), Cell.list []])) = Lc_toDatumSLa L 0 ∧ Ic_toDatumSLa L (List.length L - 0) (Lc_toDatumSLa L 0) ∧ LoopSem Try.prog
 (loopAt Try.f125 0) (Ic_toDatumSLa L) (Yc_toDatumSLa L) ∧ (True → ObsEq [Ob.arr true 4 (List.map datumC L)] [Ob.arr true 4 (List.map datumC L)] ∧ AV.sv (SV.one (AC.ref 0)) = AV.sv
 (SV.one (AC.ref 0))) ∧ True) := by kernel_rfl
theorem c_toDatumS (L : List Datum) (h : L.length + sumBy wD L ≤ 1048576) (ih : ∀ x ∈ L, ∀ (h : wD x ≤ 1048576), P_c_toDatum x)  : P_c_toDatumS L := by
  refine CallOK.ofRun wide (run_c_toDatumS L) Try.call125 Try.func125 rfl rfl rfl ?_
  with_reducible repeat' (first | apply And.intro | exact flatI | exact flatS | exact rowLens | exact ih | (intro; skip) | apply obsN | apply obsC | apply obA | apply obM | apply obB | apply svA | apply tupA | apply lcA | apply lcS | apply svC | apply liC | apply lbC | apply lsC | apply vIc | apply vBc | apply vSc | apply vLc | apply mapC | apply Hc_toDatumSLa | apply Ec_toDatumSLa | apply Sc_toDatumSLa | apply EW0c_toDatumSLa)
  all_goals (try simp only [std] at *)
  all_goals (try (first | with_reducible rfl | omega | assumption | (refine (decide_eq_true ?_).symm; assumption) | (refine (decide_eq_false ?_).symm; assumption) | (refine rowGet ?_; (first | omega | (simp only [std]; omega) | grind)) | (refine getC ?_ rfl; (first | omega | (simp only [std]; omega) | grind)) | (refine fill_step ?_ ?_; (first | omega | (simp only [std]; omega) | grind); (first | rfl | exact (Row.eq _).trans rfl)) | (refine fill_init ?_; (first | rfl | exact (Row.eq _).trans rfl)) | grind [snocI, snocS, rowSnoc]))
theorem run_c_toDatum_s (x : Datum) : aexec Try.prog (Option.getD (Func.body Try.f44) Code.skip) (entry [] [datumA x] 18) [Orc.call [Mode.rd] [Ob.arr true 4 (List.map datumC
 (Datum.items x))] (AV.sv (SV.one (AC.ref 0))), Orc.fin [3]] (finK Try.prog [ResultVar.cell 2 66] (datumO x) (AV.sv (datumR x 0))) = (P_c_toDatumS (Datum.items x) ∧ ObsEq [Ob.arr
 true 4 (List.map datumC (Datum.items x))] [Ob.arr true 4 (List.map datumC (Datum.items x))] ∧ AV.sv (SV.agg [vI (Datum.kind x), vI (Datum.number x), vS (Datum.text x), AC.ref 0])
 = AV.sv (SV.agg [vI (Datum.kind x), vI (Datum.number x), vS (Datum.text x), AC.ref 0])) := by kernel_rfl
theorem c_toDatum_s (x : Datum) (h : wD x ≤ 1048576) (ih : ∀ z ∈ x.items, ∀ (h : wD z ≤ 1048576), P_c_toDatum z)  : P_c_toDatum x := by
  refine CallOK.ofRun wide (run_c_toDatum_s x) Try.call44 Try.func44 rfl rfl rfl ?_
  with_reducible repeat' (first | apply And.intro | exact flatI | exact flatS | exact rowLens | exact ih | (intro; skip) | apply obsN | apply obsC | apply obA | apply obM | apply obB | apply svA | apply tupA | apply lcA | apply lcS | apply svC | apply liC | apply lbC | apply lsC | apply vIc | apply vBc | apply vSc | apply vLc | apply mapC | apply c_toDatumS | apply ih)
  all_goals (try simp only [std] at *)
  all_goals (try (first | with_reducible rfl | omega | assumption | (refine (decide_eq_true ?_).symm; assumption) | (refine (decide_eq_false ?_).symm; assumption) | (refine rowGet ?_; (first | omega | (simp only [std]; omega) | grind)) | (refine getC ?_ rfl; (first | omega | (simp only [std]; omega) | grind)) | (refine fill_step ?_ ?_; (first | omega | (simp only [std]; omega) | grind); (first | rfl | exact (Row.eq _).trans rfl)) | (refine fill_init ?_; (first | rfl | exact (Row.eq _).trans rfl)) | grind [wD_eq, wS, snocI, snocS, rowSnoc]))
theorem c_toDatum (x : Datum) : ∀ (h : wD x ≤ 1048576), P_c_toDatum x := Datum.ind (P := fun x => ∀ (h : wD x ≤ 1048576), P_c_toDatum x) (fun x ih h => c_toDatum_s x h ih) x
abbrev P_c_toModule (x : Module) : Prop := CallOK Try.prog 35 [] [moduleA x] (moduleO x) (.sv (moduleR x 0))
theorem run_c_toModule (x : Module) : aexec Try.prog (Option.getD (Func.body Try.f35) Code.skip) (entry [] [moduleA x] 20) [Orc.call [Mode.rd] [Ob.arr true 1 (List.map strC
 (Module.imports x))] (AV.sv (SV.one (AC.ref 0))), Orc.call [Mode.rd] [Ob.arr true 1 (List.map strC (Module.exports x))] (AV.sv (SV.one (AC.ref 0))), Orc.call [Mode.rd] [Ob.arr
 true 4 (List.map datumC (Module.body x))] (AV.sv (SV.one (AC.ref 0))), Orc.fin [3, 4, 5]] (finK Try.prog [ResultVar.cell 2 49] (moduleO x) (AV.sv (moduleR x 0))) = (P_c_toStringS
 (Module.imports x) ∧ P_c_toStringS (Module.exports x) ∧ P_c_toDatumS (Module.body x) ∧ ObsEq [Ob.arr true 1 (List.map strC (Module.imports x)), Ob.arr true 1 (List.map strC
 (Module.exports x)), Ob.arr true 4 (List.map datumC (Module.body x))] [Ob.arr true 1 (List.map strC (Module.imports x)), Ob.arr true 1 (List.map strC (Module.exports x)), Ob.arr
 true 4 (List.map datumC (Module.body x))] ∧ AV.sv (SV.agg [vS (Module.name x), AC.ref 0, AC.ref 1, AC.ref 2]) = AV.sv (SV.agg [vS (Module.name x), AC.ref 0, AC.ref 1, AC.ref 2]))
 := by kernel_rfl
theorem c_toModule (x : Module) (h : wM x ≤ 1048576)  : P_c_toModule x := by
  refine CallOK.ofRun wide (run_c_toModule x) Try.call35 Try.func35 rfl rfl rfl ?_
  with_reducible repeat' (first | apply And.intro | exact flatI | exact flatS | exact rowLens | (intro; skip) | apply obsN | apply obsC | apply obA | apply obM | apply obB | apply svA | apply tupA | apply lcA | apply lcS | apply svC | apply liC | apply lbC | apply lsC | apply vIc | apply vBc | apply vSc | apply vLc | apply mapC | apply c_toStringS | apply c_toDatumS | apply c_toDatum)
  all_goals (try simp only [std] at *)
  all_goals (try (first | with_reducible rfl | omega | assumption | (refine (decide_eq_true ?_).symm; assumption) | (refine (decide_eq_false ?_).symm; assumption) | (refine rowGet ?_; (first | omega | (simp only [std]; omega) | grind)) | (refine getC ?_ rfl; (first | omega | (simp only [std]; omega) | grind)) | (refine fill_step ?_ ?_; (first | omega | (simp only [std]; omega) | grind); (first | rfl | exact (Row.eq _).trans rfl)) | (refine fill_init ?_; (first | rfl | exact (Row.eq _).trans rfl)) | grind [wM_eq, wS, snocI, snocS, rowSnoc]))
end Go.Proofs.Ytehpjofddjmbpaa
end
section
namespace Go.Proofs.Ytehpjofddjmbpaa
open Go Go.Proofs.Ytehpjofddjmbpaa.Ab
set_option linter.unusedVariables false
set_option linter.unusedSimpArgs false
set_option maxHeartbeats 4000000
abbrev P_c_eqStringS (A : List ByteArray) (B : List ByteArray) : Prop := CallOK Try.prog 130 [] [ll (A.map strC), ll (B.map strC)] [] (.sv (lb (decide (A = B))))
def Tc_eqStringSLa (A : List ByteArray) (B : List ByteArray) (x0 : SV) : St := St.mk (regsOf 26 [(0, AV.sv (ll (List.map strC A))), (1, AV.sv (ll (List.map strC B))), (5, AV.sv
 x0)]) [] 0 
def Lc_eqStringSLa (A : List ByteArray) (B : List ByteArray) (k : Nat) : St := Tc_eqStringSLa A B (li (↑k : Int)) 
def Ic_eqStringSLa (A : List ByteArray) (B : List ByteArray) : Nat → St → Prop := Head (Lc_eqStringSLa A B) (fun k => k ≤ List.length A ∧ List.length A ≤ 9223372036854775807 ∧
 List.length A = List.length B ∧ List.take k A = List.take k B) fun k => List.length A - k 
def W0c_eqStringSLa (A : List ByteArray) (B : List ByteArray) : St := St.mk (regsOf 26 []) [] 0 
def W1c_eqStringSLa (A : List ByteArray) (B : List ByteArray) (x0 : SV) : St := St.mk (regsOf 26 [(4, AV.sv x0)]) [] 0 
def Yc_eqStringSLa (A : List ByteArray) (B : List ByteArray) : List (Prop × AEx × St) := [(A = B, AEx.exit 0, W0c_eqStringSLa A B), (A ≠ B, AEx.ret, W1c_eqStringSLa A B (lb
 false))]
theorem Hc_eqStringSLa {A : List ByteArray} {B : List ByteArray} {k : Nat} {m : Nat} (h : (fun k => k ≤ List.length A ∧ List.length A ≤ 9223372036854775807 ∧ List.length A =
 List.length B ∧ List.take k A = List.take k B) k) (hm : (fun k => List.length A - k) k = m) : Ic_eqStringSLa A B m (Lc_eqStringSLa A B k) := hm ▸ Head.mk h
theorem Ec_eqStringSLa {A : List ByteArray} {B : List ByteArray} {k : Nat} {x0 : SV} (h0 : x0 = (li (↑k : Int))) : Tc_eqStringSLa A B x0 = Lc_eqStringSLa A B k := by
  rw [h0]
  rfl
theorem EW1c_eqStringSLa {A : List ByteArray} {B : List ByteArray} {x0 y0 : SV} (h0 : x0 = y0) : W1c_eqStringSLa A B x0 = W1c_eqStringSLa A B y0 := by rw [h0]
theorem run_c_eqStringSLa (A : List ByteArray) (B : List ByteArray) (k : Nat) : aexec Try.prog (loopAt Try.f130 0) (Lc_eqStringSLa A B k) [Orc.br [Orc.draw [], Orc.cells (strC
 (List.getD A k default)), Orc.cells (strC (List.getD B k default)), Orc.br [Orc.ghost (Ghost.sel [] [4]), Orc.out 1] [Orc.ghost (Ghost.sel [] [0, 1, 5]), Orc.goto (List.length A -
 (k + 1)) (Lc_eqStringSLa A B (k + 1))]] [Orc.ghost (Ghost.sel [] []), Orc.out 0]] (loopK (Ic_eqStringSLa A B) (Yc_eqStringSLa A B) (List.length A - k)) = (List.length (List.map
 strC A) ≤ 9223372036854775807 → (decide ((↑k : Int) < (↑(List.length (List.map strC A)) : Int)) = true → (0 ≤ (↑k : Int) ∧ (List.map strC A)[Int.toNat (↑k : Int)]? = some [cS
 (List.getD A k default)]) ∧ (0 ≤ (↑k : Int) ∧ (List.map strC B)[Int.toNat (↑k : Int)]? = some [cS (List.getD B k default)]) ∧ (decide (Array.toList (ByteArray.data (List.getD A k
 default)) ≠ Array.toList (ByteArray.data (List.getD B k default))) = true → A ≠ B ∧ W1c_eqStringSLa A B (lb false) = W1c_eqStringSLa A B (lb false)) ∧ (decide (Array.toList
 (ByteArray.data (List.getD A k default)) ≠ Array.toList (ByteArray.data (List.getD B k default))) = false → rng IntKind.i64 ((↑k : Int) + 1) ∧ List.length A - (k + 1) <
 List.length A - k ∧ Tc_eqStringSLa A B (li ((↑k : Int) + 1)) = Lc_eqStringSLa A B (k + 1) ∧ Ic_eqStringSLa A B (List.length A - (k + 1)) (Lc_eqStringSLa A B (k + 1)))) ∧ (decide
 ((↑k : Int) < (↑(List.length (List.map strC A)) : Int)) = false → A = B ∧ W0c_eqStringSLa A B = W0c_eqStringSLa A B)) := by kernel_rfl
theorem Sc_eqStringSLa (A : List ByteArray) (B : List ByteArray)  : LoopSem Try.prog (loopAt Try.f130 0) (Ic_eqStringSLa A B) (Yc_eqStringSLa A B) := by
  refine LoopSem.ofHead wide fun k h => ⟨_, _, run_c_eqStringSLa A B k, ?_⟩
  with_reducible repeat' (first | apply And.intro | exact flatI | exact flatS | exact rowLens | (intro; skip) | apply obsN | apply obsC | apply obA | apply obM | apply obB | apply svA | apply tupA | apply lcA | apply lcS | apply svC | apply liC | apply lbC | apply lsC | apply vIc | apply vBc | apply vSc | apply vLc | apply mapC | apply Hc_eqStringSLa | apply Ec_eqStringSLa | apply EW1c_eqStringSLa)
  all_goals (try simp only [std] at *)
  all_goals (try (first | with_reducible rfl | omega | assumption | (refine (decide_eq_true ?_).symm; assumption) | (refine (decide_eq_false ?_).symm; assumption) | (refine rowGet ?_; (first | omega | (simp only [std]; omega) | grind)) | (refine getC ?_ rfl; (first | omega | (simp only [std]; omega) | grind)) | (refine fill_step ?_ ?_; (first | omega | (simp only [std]; omega) | grind); (first | rfl | exact (Row.eq _).trans rfl)) | (refine fill_init ?_; (first | rfl | exact (Row.eq _).trans rfl)) | grind [take_eq, bytes_ext, snocI, snocS, rowSnoc]))
theorem run_c_eqStringS (A : List ByteArray) (B : List ByteArray) : aexec Try.prog (Option.getD (Func.body Try.f130) Code.skip) (entry [] [ll (List.map strC A), ll (List.map strC
 B)] 26) [Orc.br [Orc.fin []] [Orc.ghost (Ghost.sel [] [0, 1, 5]), Orc.loop (List.length A - 0) (Lc_eqStringSLa A B 0) (Ic_eqStringSLa A B) [(A = B, AEx.exit 0, W0c_eqStringSLa A
 B, [Orc.fin []]), (A ≠ B, AEx.ret, W1c_eqStringSLa A B (lb false), [Orc.fin []])]]] (finK Try.prog [ResultVar.tmp 4] [] (AV.sv (lb (decide (A = B))))) = (List.length (List.map
 strC A) ≤ 9223372036854775807 → List.length (List.map strC B) ≤ 9223372036854775807 → (decide ((↑(List.length (List.map strC A)) : Int) ≠ (↑(List.length (List.map strC B)) : Int))
 = true → ObsEq [] [] ∧ AV.sv (lb false) = AV.sv (lb (decide (A = B)))) ∧ (decide ((↑(List.length (List.map strC A)) : Int) ≠ (↑(List.length (List.map strC B)) : Int)) = false →
 Tc_eqStringSLa A B (li 0) = Lc_eqStringSLa A B 0 ∧ Ic_eqStringSLa A B (List.length A - 0) (Lc_eqStringSLa A B 0) ∧ LoopSem Try.prog (loopAt Try.f130 0) (Ic_eqStringSLa A B)
 (Yc_eqStringSLa A B) ∧ (A = B → ObsEq [] [] ∧ AV.sv (lb true) = AV.sv (lb (decide (A = B)))) ∧ ((A = B → False) → ObsEq [] [] ∧ AV.sv (lb false) = AV.sv (lb (decide (A = B)))) ∧
 True)) := by kernel_rfl
theorem c_eqStringS (A B : List ByteArray)  : P_c_eqStringS A B := by
  refine CallOK.ofRun wide (run_c_eqStringS A B) Try.call130 Try.func130 rfl rfl rfl ?_
  with_reducible repeat' (first | apply And.intro | exact flatI | exact flatS | exact rowLens | (intro; skip) | apply obsN | apply obsC | apply obA | apply obM | apply obB | apply svA | apply tupA | apply lcA | apply lcS | apply svC | apply liC | apply lbC | apply lsC | apply vIc | apply vBc | apply vSc | apply vLc | apply mapC | apply Hc_eqStringSLa | apply Ec_eqStringSLa | apply Sc_eqStringSLa | apply EW1c_eqStringSLa)
  all_goals (try simp only [std] at *)
  all_goals (try (first | with_reducible rfl | omega | assumption | (refine (decide_eq_true ?_).symm; assumption) | (refine (decide_eq_false ?_).symm; assumption) | (refine rowGet ?_; (first | omega | (simp only [std]; omega) | grind)) | (refine getC ?_ rfl; (first | omega | (simp only [std]; omega) | grind)) | (refine fill_step ?_ ?_; (first | omega | (simp only [std]; omega) | grind); (first | rfl | exact (Row.eq _).trans rfl)) | (refine fill_init ?_; (first | rfl | exact (Row.eq _).trans rfl)) | grind [snocI, snocS, rowSnoc]))
abbrev P_c_eqDatumS (A : List Datum) (B : List Datum) : Prop := CallOK Try.prog 131 [] [ll (A.map datumC), ll (B.map datumC)] [] (.sv (lb (decide (A = B))))
abbrev P_c_eqDatum (x : Datum) (y : Datum) : Prop := CallOK Try.prog 46 [] [datumA x, datumA y] [] (.sv (lb (decide (x = y))))
def Tc_eqDatumSLa (A : List Datum) (B : List Datum) (x0 : SV) : St := St.mk (regsOf 27 [(0, AV.sv (ll (List.map datumC A))), (1, AV.sv (ll (List.map datumC B))), (5, AV.sv x0)]) []
 0 
def Lc_eqDatumSLa (A : List Datum) (B : List Datum) (k : Nat) : St := Tc_eqDatumSLa A B (li (↑k : Int)) 
def Ic_eqDatumSLa (A : List Datum) (B : List Datum) : Nat → St → Prop := Head (Lc_eqDatumSLa A B) (fun k => k ≤ List.length A ∧ List.length A ≤ 9223372036854775807 ∧ List.length A
 = List.length B ∧ List.take k A = List.take k B) fun k => List.length A - k 
def W0c_eqDatumSLa (A : List Datum) (B : List Datum) : St := St.mk (regsOf 27 []) [] 0 
def W1c_eqDatumSLa (A : List Datum) (B : List Datum) (x0 : SV) : St := St.mk (regsOf 27 [(4, AV.sv x0)]) [] 0 
def Yc_eqDatumSLa (A : List Datum) (B : List Datum) : List (Prop × AEx × St) := [(A = B, AEx.exit 0, W0c_eqDatumSLa A B), (A ≠ B, AEx.ret, W1c_eqDatumSLa A B (lb false))]
theorem Hc_eqDatumSLa {A : List Datum} {B : List Datum} {k : Nat} {m : Nat} (h : (fun k => k ≤ List.length A ∧ List.length A ≤ 9223372036854775807 ∧ List.length A = List.length B ∧
 List.take k A = List.take k B) k) (hm : (fun k => List.length A - k) k = m) : Ic_eqDatumSLa A B m (Lc_eqDatumSLa A B k) := hm ▸ Head.mk h
theorem Ec_eqDatumSLa {A : List Datum} {B : List Datum} {k : Nat} {x0 : SV} (h0 : x0 = (li (↑k : Int))) : Tc_eqDatumSLa A B x0 = Lc_eqDatumSLa A B k := by
  rw [h0]
  rfl
theorem EW1c_eqDatumSLa {A : List Datum} {B : List Datum} {x0 y0 : SV} (h0 : x0 = y0) : W1c_eqDatumSLa A B x0 = W1c_eqDatumSLa A B y0 := by rw [h0]
theorem run_c_eqDatumSLa (A : List Datum) (B : List Datum) (k : Nat) : aexec Try.prog (loopAt Try.f131 0) (Lc_eqDatumSLa A B k) [Orc.br [Orc.draw [], Orc.cells (datumF (List.getD A
 k default)), Orc.cells (datumF (List.getD B k default)), Orc.call [Mode.rd, Mode.rd] [] (AV.sv (lb (decide (List.getD A k default = List.getD B k default)))), Orc.br [Orc.ghost
 (Ghost.sel [] [4]), Orc.out 1] [Orc.ghost (Ghost.sel [] [0, 1, 5]), Orc.goto (List.length A - (k + 1)) (Lc_eqDatumSLa A B (k + 1))]] [Orc.ghost (Ghost.sel [] []), Orc.out 0]]
 (loopK (Ic_eqDatumSLa A B) (Yc_eqDatumSLa A B) (List.length A - k)) = (List.length (List.map datumC A) ≤ 9223372036854775807 → (decide ((↑k : Int) < (↑(List.length (List.map
 datumC A)) : Int)) = true → (0 ≤ (↑k : Int) ∧ (List.map datumC A)[Int.toNat (↑k : Int)]? = some (datumF (List.getD A k default))) ∧ (0 ≤ (↑k : Int) ∧ (List.map datumC B)[Int.toNat
 (↑k : Int)]? = some (datumF (List.getD B k default))) ∧ P_c_eqDatum (List.getD A k default) (List.getD B k default) ∧ ((!decide (List.getD A k default = List.getD B k default)) =
 true → A ≠ B ∧ W1c_eqDatumSLa A B (lb false) = W1c_eqDatumSLa A B (lb false)) ∧ ((!decide (List.getD A k default = List.getD B k default)) = false → rng IntKind.i64 ((↑k : Int) +
 1) ∧ List.length A - (k + 1) < List.length A - k ∧ Tc_eqDatumSLa A B (li ((↑k : Int) + 1)) = Lc_eqDatumSLa A B (k + 1) ∧ Ic_eqDatumSLa A B (List.length A - (k + 1)) (Lc_eqDatumSLa
 A B (k + 1)))) ∧ (decide ((↑k : Int) < (↑(List.length (List.map datumC A)) : Int)) = false → A = B ∧ W0c_eqDatumSLa A B = W0c_eqDatumSLa A B)) := by kernel_rfl
theorem Sc_eqDatumSLa (A : List Datum) (B : List Datum) (ih : ∀ (x : Datum), x ∈ A → ∀ (y : Datum), P_c_eqDatum x y)  : LoopSem Try.prog (loopAt Try.f131 0) (Ic_eqDatumSLa A B)
 (Yc_eqDatumSLa A B) := by
  refine LoopSem.ofHead wide fun k h => ⟨_, _, run_c_eqDatumSLa A B k, ?_⟩
  with_reducible repeat' (first | apply And.intro | exact flatI | exact flatS | exact rowLens | exact ih | (intro; skip) | apply obsN | apply obsC | apply obA | apply obM | apply obB | apply svA | apply tupA | apply lcA | apply lcS | apply svC | apply liC | apply lbC | apply lsC | apply vIc | apply vBc | apply vSc | apply vLc | apply mapC | apply Hc_eqDatumSLa | apply Ec_eqDatumSLa | apply EW1c_eqDatumSLa | apply ih)
  all_goals (try simp only [std] at *)
  all_goals (try (first | with_reducible rfl | omega | assumption | (refine (decide_eq_true ?_).symm; assumption) | (refine (decide_eq_false ?_).symm; assumption) | (refine rowGet ?_; (first | omega | (simp only [std]; omega) | grind)) | (refine getC ?_ rfl; (first | omega | (simp only [std]; omega) | grind)) | (refine fill_step ?_ ?_; (first | omega | (simp only [std]; omega) | grind); (first | rfl | exact (Row.eq _).trans rfl)) | (refine fill_init ?_; (first | rfl | exact (Row.eq _).trans rfl)) | grind [take_eq, getD_mem', snocI, snocS, rowSnoc]))
theorem run_c_eqDatumS (A : List Datum) (B : List Datum) : aexec Try.prog (Option.getD (Func.body Try.f131) Code.skip) (entry [] [ll (List.map datumC A), ll (List.map datumC B)]
 27) [Orc.br [Orc.fin []] [Orc.ghost (Ghost.sel [] [0, 1, 5]), Orc.loop (List.length A - 0) (Lc_eqDatumSLa A B 0) (Ic_eqDatumSLa A B) [(A = B, AEx.exit 0, W0c_eqDatumSLa A B,
 [Orc.fin []]), (A ≠ B, AEx.ret, W1c_eqDatumSLa A B (lb false), [Orc.fin []])]]] (finK Try.prog [ResultVar.tmp 4] [] (AV.sv (lb (decide (A = B))))) = (List.length (List.map datumC
 A) ≤ 9223372036854775807 → List.length (List.map datumC B) ≤ 9223372036854775807 → (decide ((↑(List.length (List.map datumC A)) : Int) ≠ (↑(List.length (List.map datumC B)) :
 Int)) = true → ObsEq [] [] ∧ AV.sv (lb false) = AV.sv (lb (decide (A = B)))) ∧ (decide ((↑(List.length (List.map datumC A)) : Int) ≠ (↑(List.length (List.map datumC B)) : Int)) =
 false → Tc_eqDatumSLa A B (li 0) = Lc_eqDatumSLa A B 0 ∧ Ic_eqDatumSLa A B (List.length A - 0) (Lc_eqDatumSLa A B 0) ∧ LoopSem Try.prog (loopAt Try.f131 0) (Ic_eqDatumSLa A B)
 (Yc_eqDatumSLa A B) ∧ (A = B → ObsEq [] [] ∧ AV.sv (lb true) = AV.sv (lb (decide (A = B)))) ∧ ((A = B → False) → ObsEq [] [] ∧ AV.sv (lb false) = AV.sv (lb (decide (A = B)))) ∧
 True)) := by kernel_rfl
theorem c_eqDatumS (A B : List Datum) (ih : ∀ x ∈ A, ∀ (y : Datum), P_c_eqDatum x y)  : P_c_eqDatumS A B := by
  refine CallOK.ofRun wide (run_c_eqDatumS A B) Try.call131 Try.func131 rfl rfl rfl ?_
  with_reducible repeat' (first | apply And.intro | exact flatI | exact flatS | exact rowLens | exact ih | (intro; skip) | apply obsN | apply obsC | apply obA | apply obM | apply obB | apply svA | apply tupA | apply lcA | apply lcS | apply svC | apply liC | apply lbC | apply lsC | apply vIc | apply vBc | apply vSc | apply vLc | apply mapC | apply Hc_eqDatumSLa | apply Ec_eqDatumSLa | apply Sc_eqDatumSLa | apply EW1c_eqDatumSLa)
  all_goals (try simp only [std] at *)
  all_goals (try (first | with_reducible rfl | omega | assumption | (refine (decide_eq_true ?_).symm; assumption) | (refine (decide_eq_false ?_).symm; assumption) | (refine rowGet ?_; (first | omega | (simp only [std]; omega) | grind)) | (refine getC ?_ rfl; (first | omega | (simp only [std]; omega) | grind)) | (refine fill_step ?_ ?_; (first | omega | (simp only [std]; omega) | grind); (first | rfl | exact (Row.eq _).trans rfl)) | (refine fill_init ?_; (first | rfl | exact (Row.eq _).trans rfl)) | grind [snocI, snocS, rowSnoc]))
theorem run_c_eqDatum_s (x : Datum) (y : Datum) : aexec Try.prog (Option.getD (Func.body Try.f46) Code.skip) (entry [] [datumA x, datumA y] 26) [Orc.br [Orc.fin []] [Orc.br
 [Orc.fin []] [Orc.br [Orc.fin []] [Orc.call [Mode.rd, Mode.rd] [] (AV.sv (lb (decide (Datum.items x = Datum.items y)))), Orc.br [Orc.fin []] [Orc.fin []]]]]] (finK Try.prog
 [ResultVar.tmp 4] [] (AV.sv (lb (decide (x = y))))) = ((decide (Datum.kind x ≠ Datum.kind y) = true → ObsEq [] [] ∧ AV.sv (lb false) = AV.sv (lb (decide (x = y)))) ∧ (decide
 (Datum.kind x ≠ Datum.kind y) = false → (decide (Datum.number x ≠ Datum.number y) = true → ObsEq [] [] ∧ AV.sv (lb false) = AV.sv (lb (decide (x = y)))) ∧ (decide (Datum.number x
 ≠ Datum.number y) = false → (decide (Array.toList (ByteArray.data (Datum.text x)) ≠ Array.toList (ByteArray.data (Datum.text y))) = true → ObsEq [] [] ∧ AV.sv (lb false) = AV.sv
 (lb (decide (x = y)))) ∧ (decide (Array.toList (ByteArray.data (Datum.text x)) ≠ Array.toList (ByteArray.data (Datum.text y))) = false → P_c_eqDatumS (Datum.items x) (Datum.items
 y) ∧ ((!decide (Datum.items x = Datum.items y)) = true → ObsEq [] [] ∧ AV.sv (lb false) = AV.sv (lb (decide (x = y)))) ∧ ((!decide (Datum.items x = Datum.items y)) = false → ObsEq
 [] [] ∧ AV.sv (lb true) = AV.sv (lb (decide (x = y)))))))) := by kernel_rfl
theorem c_eqDatum_s (x y : Datum) (ih : ∀ z ∈ x.items, ∀ (y : Datum), P_c_eqDatum z y)  : P_c_eqDatum x y := by
  refine CallOK.ofRun wide (run_c_eqDatum_s x y) Try.call46 Try.func46 rfl rfl rfl ?_
  simp only [datumExt]
  with_reducible repeat' (first | apply And.intro | exact flatI | exact flatS | exact rowLens | exact ih | (intro; skip) | apply obsN | apply obsC | apply obA | apply obM | apply obB | apply svA | apply tupA | apply lcA | apply lcS | apply svC | apply liC | apply lbC | apply lsC | apply vIc | apply vBc | apply vSc | apply vLc | apply mapC | apply c_eqDatumS | apply ih)
  all_goals (try simp only [std] at *)
  all_goals (try (first | with_reducible rfl | omega | assumption | (refine (decide_eq_true ?_).symm; assumption) | (refine (decide_eq_false ?_).symm; assumption) | (refine rowGet ?_; (first | omega | (simp only [std]; omega) | grind)) | (refine getC ?_ rfl; (first | omega | (simp only [std]; omega) | grind)) | (refine fill_step ?_ ?_; (first | omega | (simp only [std]; omega) | grind); (first | rfl | exact (Row.eq _).trans rfl)) | (refine fill_init ?_; (first | rfl | exact (Row.eq _).trans rfl)) | grind [bytes_ext, snocI, snocS, rowSnoc]))
theorem c_eqDatum (x : Datum) : ∀ (y : Datum), P_c_eqDatum x y := Datum.ind (P := fun x => ∀ (y : Datum), P_c_eqDatum x y) (fun x ih y => c_eqDatum_s x y ih) x
abbrev P_c_eqModule (x : Module) (y : Module) : Prop := CallOK Try.prog 37 [] [moduleA x, moduleA y] [] (.sv (lb (decide (x = y))))
theorem run_c_eqModule (x : Module) (y : Module) : aexec Try.prog (Option.getD (Func.body Try.f37) Code.skip) (entry [] [moduleA x, moduleA y] 28) [Orc.br [Orc.fin []] [Orc.call
 [Mode.rd, Mode.rd] [] (AV.sv (lb (decide (Module.imports x = Module.imports y)))), Orc.br [Orc.fin []] [Orc.call [Mode.rd, Mode.rd] [] (AV.sv (lb (decide (Module.exports x =
 Module.exports y)))), Orc.br [Orc.fin []] [Orc.call [Mode.rd, Mode.rd] [] (AV.sv (lb (decide (Module.body x = Module.body y)))), Orc.br [Orc.fin []] [Orc.fin []]]]]] (finK
 Try.prog [ResultVar.tmp 4] [] (AV.sv (lb (decide (x = y))))) = ((decide (Array.toList (ByteArray.data (Module.name x)) ≠ Array.toList (ByteArray.data (Module.name y))) = true →
 ObsEq [] [] ∧ AV.sv (lb false) = AV.sv (lb (decide (x = y)))) ∧ (decide (Array.toList (ByteArray.data (Module.name x)) ≠ Array.toList (ByteArray.data (Module.name y))) = false →
 P_c_eqStringS (Module.imports x) (Module.imports y) ∧ ((!decide (Module.imports x = Module.imports y)) = true → ObsEq [] [] ∧ AV.sv (lb false) = AV.sv (lb (decide (x = y)))) ∧
 ((!decide (Module.imports x = Module.imports y)) = false → P_c_eqStringS (Module.exports x) (Module.exports y) ∧ ((!decide (Module.exports x = Module.exports y)) = true → ObsEq []
 [] ∧ AV.sv (lb false) = AV.sv (lb (decide (x = y)))) ∧ ((!decide (Module.exports x = Module.exports y)) = false → P_c_eqDatumS (Module.body x) (Module.body y) ∧ ((!decide
 (Module.body x = Module.body y)) = true → ObsEq [] [] ∧ AV.sv (lb false) = AV.sv (lb (decide (x = y)))) ∧ ((!decide (Module.body x = Module.body y)) = false → ObsEq [] [] ∧ AV.sv
 (lb true) = AV.sv (lb (decide (x = y)))))))) := by kernel_rfl
theorem c_eqModule (x y : Module)  : P_c_eqModule x y := by
  refine CallOK.ofRun wide (run_c_eqModule x y) Try.call37 Try.func37 rfl rfl rfl ?_
  simp only [moduleExt]
  with_reducible repeat' (first | apply And.intro | exact flatI | exact flatS | exact rowLens | (intro; skip) | apply obsN | apply obsC | apply obA | apply obM | apply obB | apply svA | apply tupA | apply lcA | apply lcS | apply svC | apply liC | apply lbC | apply lsC | apply vIc | apply vBc | apply vSc | apply vLc | apply mapC | apply c_eqStringS | apply c_eqDatumS | apply c_eqDatum)
  all_goals (try simp only [std] at *)
  all_goals (try (first | with_reducible rfl | omega | assumption | (refine (decide_eq_true ?_).symm; assumption) | (refine (decide_eq_false ?_).symm; assumption) | (refine rowGet ?_; (first | omega | (simp only [std]; omega) | grind)) | (refine getC ?_ rfl; (first | omega | (simp only [std]; omega) | grind)) | (refine fill_step ?_ ?_; (first | omega | (simp only [std]; omega) | grind); (first | rfl | exact (Row.eq _).trans rfl)) | (refine fill_init ?_; (first | rfl | exact (Row.eq _).trans rfl)) | grind [bytes_ext, snocI, snocS, rowSnoc]))
end Go.Proofs.Ytehpjofddjmbpaa
end
section
namespace Go.Proofs.Ytehpjofddjmbpaa
open Go Go.Proofs.Ytehpjofddjmbpaa.Ab
set_option linter.unusedVariables false
set_option linter.unusedSimpArgs false
set_option maxHeartbeats 4000000
abbrev P_c_LIsMod (m : Module) : Prop := CallOK Try.prog 5 [] [moduleA m] [] (.sv (lb true))
theorem run_c_LIsMod (m : Module) : aexec Try.prog (Option.getD (Func.body Try.f5) Code.skip) (entry [] [moduleA m] 27) [Orc.call [Mode.rd, Mode.rd] [] (AV.sv (li (sz (wM m)
 1048576))), Orc.br [Orc.fin []] [Orc.call [Mode.rd] (moduleO m) (AV.sv (moduleR m 0)), Orc.call [Mode.rd] [] (AV.sv (lb (modOK m))), Orc.call [Mode.rd] (moduleO m) (AV.sv (moduleR
 m 0)), Orc.call [Mode.rd] [] (AV.sv (lb (modOK m))), Orc.br [Orc.fin []] [Orc.draw [], Orc.call [Mode.rd] (moduleO m) (AV.sv (moduleR m 0)), Orc.call [Mode.rd, Mode.rd] [] (AV.sv
 (lb (decide (m = m)))), Orc.br [Orc.fin []] [Orc.fin []]]]] (finK Try.prog [ResultVar.tmp 2] [] (AV.sv (lb true))) = (P_c_szModule m 1048576 ∧ (decide (sz (wM m) (1048576 : Int) <
 0) = true → ObsEq [] [] ∧ AV.sv (lb true) = AV.sv (lb true)) ∧ (decide (sz (wM m) (1048576 : Int) < 0) = false → P_c_toModule m ∧ P_c_sIsModule m ∧ P_c_toModule m ∧ P_c_iIsModule
 m ∧ (decide (modOK m ≠ modOK m) = true → ObsEq [] [] ∧ AV.sv (lb false) = AV.sv (lb true)) ∧ (decide (modOK m ≠ modOK m) = false → P_c_toModule m ∧ P_c_eqModule m m ∧ ((!decide (m
 = m)) = true → ObsEq [] [] ∧ AV.sv (lb false) = AV.sv (lb true)) ∧ ((!decide (m = m)) = false → ObsEq [] [] ∧ AV.sv (lb true) = AV.sv (lb true))))) := by kernel_rfl
theorem c_LIsMod (m : Module)  : P_c_LIsMod m := by
  refine CallOK.ofRun wide (run_c_LIsMod m) Try.call5 Try.func5 rfl rfl rfl ?_
  with_reducible repeat' (first | apply And.intro | exact flatI | exact flatS | exact rowLens | (intro; skip) | apply obsN | apply obsC | apply obA | apply obM | apply obB | apply svA | apply tupA | apply lcA | apply lcS | apply svC | apply liC | apply lbC | apply lsC | apply vIc | apply vBc | apply vSc | apply vLc | apply mapC | apply c_szModule | apply c_toModule | apply c_eqModule | apply c_sIsModule | apply c_iIsModule)
  all_goals (try simp only [std] at *)
  all_goals (try (first | with_reducible apply c_szModule | with_reducible apply c_toModule | with_reducible apply c_eqModule | with_reducible apply c_sIsModule | with_reducible apply c_iIsModule | (simp only [← List.map_append]; first | with_reducible apply c_szModule | with_reducible apply c_toModule | with_reducible apply c_eqModule | with_reducible apply c_sIsModule | with_reducible apply c_iIsModule)))
  all_goals (try (first | with_reducible rfl | omega | assumption | (refine (decide_eq_true ?_).symm; assumption) | (refine (decide_eq_false ?_).symm; assumption) | (refine rowGet ?_; (first | omega | (simp only [std]; omega) | grind)) | (refine getC ?_ rfl; (first | omega | (simp only [std]; omega) | grind)) | (refine fill_step ?_ ?_; (first | omega | (simp only [std]; omega) | grind); (first | rfl | exact (Row.eq _).trans rfl)) | (refine fill_init ?_; (first | rfl | exact (Row.eq _).trans rfl)) | (show (_ : St) = _; rfl) | grind [sz, snocI, snocS, rowSnoc]))
end Go.Proofs.Ytehpjofddjmbpaa
end
section
namespace Go.Proofs.Ytehpjofddjmbpaa.fnExactIsModule
open Go Go.ChangeShapes Go.WideShapes Go.ChangeAt Go.RowKit Go.Proofs.Ytehpjofddjmbpaa.Ab
set_option linter.unusedVariables false
theorem own : ownKnob Try.prog.godebug = none := by kernel_rfl
theorem laid : laidOutB Try.prog = true := by kernel_rfl
theorem rowed : mapsRowed Try.prog = true := by kernel_rfl
theorem sized : ((List.range Try.prog.types.size).all fun t => match Try.prog.underlying t with | some (.slice e) => decide (0 < Try.prog.cellsOf e) | _ => true) = true := by kernel_rfl
set_option maxRecDepth 100000 in
theorem lifted (os : Os) (started : os.Started) (H : Type) (enc : TypeId × Value → H) :
    ReturnsInHanded {} Try.checked os 5 .any (Rows.fnExactIsModuleSpec.pre6 enc Try.prog Try.f5 Rows.fnExactIsModuleRow.domain false) (Rows.fnExactIsModuleSpec.post enc Try.prog Try.f5 false true false false) := by
  refine returnsInHanded_of_change (C := Try.checked) own started (by kernel_rfl) Try.func5
    (ChangeSpec.witness6 (enc := enc) (C := Try.checked) false ⟨#[], #[.agg #[.string ⟨#[]⟩, .slice none 0 0, .slice none 0 0, .slice none 0 0]], []⟩ 12 (by kernel_rfl) (by kernel_rfl) (by kernel_rfl) (by kernel_rfl)) ?_
  intro W base args ds gs before hval0 hW hcnd _
  have hval : ∀ (j : Nat) t v, Try.f5.params[j]? = some t → args[j]? = some v → Value.okWide Try.prog W .any base t v := hval0
  have hW' := hW
  obtain ⟨p, q, hA0, hV, rfl, hfz, hnd⟩ := hW
  obtain ⟨rfl, rfl⟩ := trodVars_none hV
  have hA : DataW.TrodAll enc Try.prog W 0 (fun _ => true) true Try.f5.params.toList args.toList ds p := hA0
  rw [Try.params5] at hA hval
  have hA2 := hA
  clear hA0 hval0
  obtain ⟨v0, vs0, d0, ds0, p0, q0, hargs0, rfl, rfl, h0, r0⟩ := trodAll_cons hA
  obtain ⟨rfl, rfl, rfl⟩ := trodAll_nil r0
  obtain rfl : args = #[v0] := by cases args; simp_all
  obtain ⟨a0, c0⟩ := (let ⟨fuel, hf⟩ := h0; rd_module fuel _ _ hf)
  have s0 : SVRel W (allI W) (obOf []) (moduleA a0) v0 := agg_rel (let ⟨cs, h, _⟩ := okWide_struct Try.underlying44 (hval 0 44 v0 rfl rfl); ⟨cs, h⟩) c0
  refine (CallOK.kept (w := W) (vals := #[v0]) (c_LIsMod a0) ⟨s0, trivial⟩).mono fun e W' ⟨he, hg, _⟩ => ?_
  subst he
  exact ⟨_, rfl, post_of_kept (pv := []) hW' (fun _ _ _ => (trodAll_cons_mk (shut_bool Try.underlying4 _) trodAll_mk0))
    (fun sp hsp => trodAll_kept laid rowed sized hg (by decide +kernel) hA2 fun y hy => hsp y (by simpa using hy)) (fun _ _ => rfl) rfl
    hg (ok_one (by kernel_rfl) rfl (okWide_bool_mk Try.underlying4 _))⟩
set_option maxRecDepth 100000 in
set_option maxHeartbeats 0 in
theorem facts : joinedFacts Try.pinned.checked.prog 5 Try.f5 Rows.fnExactIsModuleSpec Rows.fnExactIsModuleRow = true := by
  delta joinedFacts
  with_reducible repeat' apply and_i
  all_goals (first | with_reducible exact enters | (rw [makes]; kernel_rfl) | (rw [lifts]; kernel_rfl) | decide +kernel)
theorem over : Rows.fnExactIsModuleRow.holds Try.pinned (OpenSpec.ofChange Rows.fnExactIsModuleSpec) :=
  OpenClaim.holds_of_wide 5 Try.f5 rfl rfl rfl rfl rfl rfl rfl ⟨rfl, rfl, rfl, rfl, rfl⟩ rfl rfl rfl rfl rfl (by kernel_rfl) Try.func5 facts
    (of_decide_eq_true (by kernel_rfl)) (by unfold Func.isWrapper; first | (rw [if_pos (by decide +kernel)]; kernel_rfl) | (rw [if_neg (by decide +kernel)]; exact ⟨rfl, rfl⟩))
    (fun os started H enc _ => lifted os started H enc)
theorem proved : Rows.FnExactIsModuleSaid :=
  over
end Go.Proofs.Ytehpjofddjmbpaa.fnExactIsModule
end
