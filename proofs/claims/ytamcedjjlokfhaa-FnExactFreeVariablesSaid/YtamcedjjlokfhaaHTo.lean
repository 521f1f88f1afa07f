/- The contracts of the functions with which the laws build their copies. No condition. -/
import Derived.Test.YtamcedjjlokfhaaData
import Derived.Test.YtamcedjjlokfhaaRows
namespace Go.Proofs.Ytamcedjjlokfhaa
open Go Go.Proofs.Ytamcedjjlokfhaa.Ab
set_option linter.unusedVariables false
set_option linter.unusedSimpArgs false
set_option maxHeartbeats 4000000

abbrev P_c_toIntS (L : List Int) : Prop := CallOK Try.prog 71 [] [ll (L.map intC)] [.arr true 1 (L.map intC)] (.sv (.one (.ref 0)))
def Tc_toIntSLa (L : List Int) (x0 : SV) (x1 : Ob) : St := St.mk (regsOf 22 [(0, AV.sv (ll (List.map intC L))), (3, AV.sv (SV.one (AC.ref 0))), (4, AV.sv x0)]) [x1] 0 
def Lc_toIntSLa (L : List Int) (k : Nat) : St := Tc_toIntSLa L (li (↑k : Int)) (Ob.arr true 1 (List.map intC (fillTo L k))) 
def Ic_toIntSLa (L : List Int) : Nat → St → Prop := Head (Lc_toIntSLa L) (fun k => k ≤ List.length L ∧ List.length L ≤ 9223372036854775807) fun k => List.length L - k 
def W0c_toIntSLa (L : List Int) (x0 : Ob) : St := St.mk (regsOf 22 [(3, AV.sv (SV.one (AC.ref 0)))]) [x0] 0 
def Yc_toIntSLa (L : List Int) : List (Prop × AEx × St) := [(True, AEx.exit 0, W0c_toIntSLa L (Ob.arr true 1 (List.map intC L)))]
theorem Hc_toIntSLa {L : List Int} {k : Nat} {m : Nat} (h : (fun k => k ≤ List.length L ∧ List.length L ≤ 9223372036854775807) k) (hm : (fun k => List.length L - k) k = m) :
 Ic_toIntSLa L m (Lc_toIntSLa L k) := hm ▸ Head.mk h
theorem Ec_toIntSLa {L : List Int} {k : Nat} {x0 : SV} {x1 : Ob} (h0 : x0 = (li (↑k : Int))) (h1 : x1 = (Ob.arr true 1 (List.map intC (fillTo L k)))) : Tc_toIntSLa L x0 x1 =
 Lc_toIntSLa L k := by (rw [h0, h1]; rfl)
theorem EW0c_toIntSLa {L : List Int} {x0 y0 : Ob} (h0 : x0 = y0) : W0c_toIntSLa L x0 = W0c_toIntSLa L y0 := by rw [h0]
theorem run_c_toIntSLa (L : List Int) (k : Nat) : aexec Try.prog (loopAt Try.f71 0) (Lc_toIntSLa L k) [Orc.br [Orc.cells (intC (List.getD L k default)), Orc.cells (intC (List.getD
 (fillTo L k) (Int.toNat (↑k : Int)) default)), Orc.ghost (Ghost.sel [0] [0, 3, 4]), Orc.goto (List.length L - (k + 1)) (Lc_toIntSLa L (k + 1))] [Orc.ghost (Ghost.sel [0] [3]),
 Orc.out 0]] (loopK (Ic_toIntSLa L) (Yc_toIntSLa L) (List.length L - k)) = (List.length (List.map intC L) ≤ 9223372036854775807 → (decide ((↑k : Int) < (↑(List.length (List.map
 intC L)) : Int)) = true → (0 ≤ (↑k : Int) ∧ (List.map intC L)[Int.toNat (↑k : Int)]? = some [cI (List.getD L k 0)]) ∧ (0 ≤ (↑k : Int) ∧ Int.toNat (↑k : Int) < List.length
 (List.map intC (fillTo L k))) ∧ (List.map intC (fillTo L k))[Int.toNat (↑k : Int)]? = some [cI (List.getD (fillTo L k) (Int.toNat (↑k : Int)) 0)] ∧ rng IntKind.i64 ((↑k : Int) +
 1) ∧ List.length L - (k + 1) < List.length L - k ∧ Tc_toIntSLa L (li ((↑k : Int) + 1)) (Ob.arr true 1 (List.set (List.map intC (fillTo L k)) (Int.toNat (↑k : Int)) [cI (List.getD
 L k 0)])) = Lc_toIntSLa L (k + 1) ∧ Ic_toIntSLa L (List.length L - (k + 1)) (Lc_toIntSLa L (k + 1))) ∧ (decide ((↑k : Int) < (↑(List.length (List.map intC L)) : Int)) = false →
 True ∧ W0c_toIntSLa L (Ob.arr true 1 (List.map intC (fillTo L k))) = W0c_toIntSLa L (Ob.arr true 1 (List.map intC L)))) := by kernel_rfl
theorem Sc_toIntSLa (L : List Int) (h : List.length L ≤ 1048576)  : LoopSem Try.prog (loopAt Try.f71 0) (Ic_toIntSLa L) (Yc_toIntSLa L) := by
  refine LoopSem.ofHead wide fun k h => ⟨_, _, run_c_toIntSLa L k, ?_⟩
  with_reducible repeat' (first | apply And.intro | exact flatI | exact flatS | exact rowLens | (intro; skip) | apply obsN | apply obsC | apply obA | apply obM | apply obB | apply svA | apply tupA | apply lcA | apply lcS | apply svC | apply liC | apply lbC | apply lsC | apply vIc | apply vBc | apply vSc | apply vLc | apply mapC | apply Hc_toIntSLa | apply Ec_toIntSLa | apply EW0c_toIntSLa)
  all_goals (try simp only [std] at *)
  all_goals (try (first | with_reducible rfl | omega | assumption | exact rowGet (by first | omega | (simp only [std]; omega) | grind) | exact getC (by first | omega | (simp only [std]; omega) | grind) rfl | exact fill_step (by first | omega | (simp only [std]; omega) | grind) (by first | rfl | exact (Row.eq _).trans rfl) | exact fill_init (by first | rfl | exact (Row.eq _).trans rfl) | grind [fillTo_all, snocI, snocS, rowSnoc]))
theorem run_c_toIntS (L : List Int) : aexec Try.prog (Option.getD (Func.body Try.f71) Code.skip) (entry [] [ll (List.map intC L)] 22) [Orc.ghost (Ghost.sel [0] [0, 3, 4]), Orc.loop
 (List.length L - 0) (Lc_toIntSLa L 0) (Ic_toIntSLa L) [(True, AEx.exit 0, W0c_toIntSLa L (Ob.arr true 1 (List.map intC L)), [Orc.fin [0]])]] (finK Try.prog [ResultVar.tmp 2]
 [Ob.arr true 1 (List.map intC L)] (AV.sv (SV.one (AC.ref 0)))) = (List.length (List.map intC L) ≤ 9223372036854775807 → (0 ≤ (↑(List.length (List.map intC L)) : Int) ∧ 8 *
 Int.toNat (↑(List.length (List.map intC L)) : Int) ≤ 281474976710656) ∧ Tc_toIntSLa L (li 0) (Ob.arr true 1 (List.replicate (Int.toNat (↑(List.length (List.map intC L)) : Int))
 [cI 0])) = Lc_toIntSLa L 0 ∧ Ic_toIntSLa L (List.length L - 0) (Lc_toIntSLa L 0) ∧ LoopSem Try.prog (loopAt Try.f71 0) (Ic_toIntSLa L) (Yc_toIntSLa L) ∧ (True → ObsEq [Ob.arr true
 1 (List.map intC L)] [Ob.arr true 1 (List.map intC L)] ∧ AV.sv (SV.one (AC.ref 0)) = AV.sv (SV.one (AC.ref 0))) ∧ True) := by kernel_rfl
theorem c_toIntS (L : List Int) (h : L.length ≤ 1048576)  : P_c_toIntS L := by
  refine CallOK.ofRun wide (run_c_toIntS L) Try.call71 Try.func71 rfl rfl rfl ?_
  with_reducible repeat' (first | apply And.intro | exact flatI | exact flatS | exact rowLens | (intro; skip) | apply obsN | apply obsC | apply obA | apply obM | apply obB | apply svA | apply tupA | apply lcA | apply lcS | apply svC | apply liC | apply lbC | apply lsC | apply vIc | apply vBc | apply vSc | apply vLc | apply mapC | apply Hc_toIntSLa | apply Ec_toIntSLa | apply Sc_toIntSLa | apply EW0c_toIntSLa)
  all_goals (try simp only [std] at *)
  all_goals (try (first | with_reducible rfl | omega | assumption | exact rowGet (by first | omega | (simp only [std]; omega) | grind) | exact getC (by first | omega | (simp only [std]; omega) | grind) rfl | exact fill_step (by first | omega | (simp only [std]; omega) | grind) (by first | rfl | exact (Row.eq _).trans rfl) | exact fill_init (by first | rfl | exact (Row.eq _).trans rfl) | grind [snocI, snocS, rowSnoc]))

abbrev P_c_toStringS (L : List ByteArray) : Prop := CallOK Try.prog 136 [] [ll (L.map strC)] [.arr true 1 (L.map strC)] (.sv (.one (.ref 0)))
def Tc_toStringSLa (L : List ByteArray) (x0 : SV) (x1 : Ob) : St := St.mk (regsOf 22 [(0, AV.sv (ll (List.map strC L))), (3, AV.sv (SV.one (AC.ref 0))), (4, AV.sv x0)]) [x1] 0 
def Lc_toStringSLa (L : List ByteArray) (k : Nat) : St := Tc_toStringSLa L (li (↑k : Int)) (Ob.arr true 1 (List.map strC (fillTo L k))) 
def Ic_toStringSLa (L : List ByteArray) : Nat → St → Prop := Head (Lc_toStringSLa L) (fun k => k ≤ List.length L ∧ List.length L ≤ 9223372036854775807) fun k => List.length L - k 
def W0c_toStringSLa (L : List ByteArray) (x0 : Ob) : St := St.mk (regsOf 22 [(3, AV.sv (SV.one (AC.ref 0)))]) [x0] 0 
def Yc_toStringSLa (L : List ByteArray) : List (Prop × AEx × St) := [(True, AEx.exit 0, W0c_toStringSLa L (Ob.arr true 1 (List.map strC L)))]
theorem Hc_toStringSLa {L : List ByteArray} {k : Nat} {m : Nat} (h : (fun k => k ≤ List.length L ∧ List.length L ≤ 9223372036854775807) k) (hm : (fun k => List.length L - k) k = m)
 : Ic_toStringSLa L m (Lc_toStringSLa L k) := hm ▸ Head.mk h
theorem Ec_toStringSLa {L : List ByteArray} {k : Nat} {x0 : SV} {x1 : Ob} (h0 : x0 = (li (↑k : Int))) (h1 : x1 = (Ob.arr true 1 (List.map strC (fillTo L k)))) : Tc_toStringSLa L x0
 x1 = Lc_toStringSLa L k := by (rw [h0, h1]; rfl)
theorem EW0c_toStringSLa {L : List ByteArray} {x0 y0 : Ob} (h0 : x0 = y0) : W0c_toStringSLa L x0 = W0c_toStringSLa L y0 := by rw [h0]
theorem run_c_toStringSLa (L : List ByteArray) (k : Nat) : aexec Try.prog (loopAt Try.f136 0) (Lc_toStringSLa L k) [Orc.br [Orc.cells (strC (List.getD L k default)), Orc.cells
 (strC (List.getD (fillTo L k) (Int.toNat (↑k : Int)) default)), Orc.ghost (Ghost.sel [0] [0, 3, 4]), Orc.goto (List.length L - (k + 1)) (Lc_toStringSLa L (k + 1))] [Orc.ghost
 (Ghost.sel [0] [3]), Orc.out 0]] (loopK (Ic_toStringSLa L) (Yc_toStringSLa L) (List.length L - k)) = (List.length (List.map strC L) ≤ 9223372036854775807 → (decide ((↑k : Int) <
 (↑(List.length (List.map strC L)) : Int)) = true → (0 ≤ (↑k : Int) ∧ (List.map strC L)[Int.toNat (↑k : Int)]? = some [cS (List.getD L k default)]) ∧ (0 ≤ (↑k : Int) ∧ Int.toNat
 (↑k : Int) < List.length (List.map strC (fillTo L k))) ∧ (List.map strC (fillTo L k))[Int.toNat (↑k : Int)]? = some [cS (List.getD (fillTo L k) (Int.toNat (↑k : Int)) default)] ∧
 rng IntKind.i64 ((↑k : Int) + 1) ∧ List.length L - (k + 1) < List.length L - k ∧ Tc_toStringSLa L (li ((↑k : Int) + 1)) (Ob.arr true 1 (List.set (List.map strC (fillTo L k))
 (Int.toNat (↑k : Int)) [cS (List.getD L k default)])) = Lc_toStringSLa L (k + 1) ∧ Ic_toStringSLa L (List.length L - (k + 1)) (Lc_toStringSLa L (k + 1))) ∧ (decide ((↑k : Int) <
 (↑(List.length (List.map strC L)) : Int)) = false → True ∧ W0c_toStringSLa L (Ob.arr true 1 (List.map strC (fillTo L k))) = W0c_toStringSLa L (Ob.arr true 1 (List.map strC L))))
 := by kernel_rfl
theorem Sc_toStringSLa (L : List ByteArray) (h : List.length L ≤ 1048576)  : LoopSem Try.prog (loopAt Try.f136 0) (Ic_toStringSLa L) (Yc_toStringSLa L) := by
  refine LoopSem.ofHead wide fun k h => ⟨_, _, run_c_toStringSLa L k, ?_⟩
  with_reducible repeat' (first | apply And.intro | exact flatI | exact flatS | exact rowLens | (intro; skip) | apply obsN | apply obsC | apply obA | apply obM | apply obB | apply svA | apply tupA | apply lcA | apply lcS | apply svC | apply liC | apply lbC | apply lsC | apply vIc | apply vBc | apply vSc | apply vLc | apply mapC | apply Hc_toStringSLa | apply Ec_toStringSLa | apply EW0c_toStringSLa)
  all_goals (try simp only [std] at *)
  all_goals (try (first | with_reducible rfl | omega | assumption | exact rowGet (by first | omega | (simp only [std]; omega) | grind) | exact getC (by first | omega | (simp only [std]; omega) | grind) rfl | exact fill_step (by first | omega | (simp only [std]; omega) | grind) (by first | rfl | exact (Row.eq _).trans rfl) | exact fill_init (by first | rfl | exact (Row.eq _).trans rfl) | grind [fillTo_all, snocI, snocS, rowSnoc]))
theorem run_c_toStringS (L : List ByteArray) : aexec Try.prog (Option.getD (Func.body Try.f136) Code.skip) (entry [] [ll (List.map strC L)] 22) [Orc.ghost (Ghost.sel [0] [0, 3,
 4]), Orc.loop (List.length L - 0) (Lc_toStringSLa L 0) (Ic_toStringSLa L) [(True, AEx.exit 0, W0c_toStringSLa L (Ob.arr true 1 (List.map strC L)), [Orc.fin [0]])]] (finK Try.prog
 [ResultVar.tmp 2] [Ob.arr true 1 (List.map strC L)] (AV.sv (SV.one (AC.ref 0)))) = (List.length (List.map strC L) ≤ 9223372036854775807 → (0 ≤ (↑(List.length (List.map strC L)) :
 Int) ∧ 16 * Int.toNat (↑(List.length (List.map strC L)) : Int) ≤ 281474976710656) ∧ Tc_toStringSLa L (li 0) (Ob.arr true 1 (List.replicate (Int.toNat (↑(List.length (List.map strC
 L)) : Int)) [cS (ByteArray.mk #[])])) = Lc_toStringSLa L 0 ∧ Ic_toStringSLa L (List.length L - 0) (Lc_toStringSLa L 0) ∧ LoopSem Try.prog (loopAt Try.f136 0) (Ic_toStringSLa L)
 (Yc_toStringSLa L) ∧ (True → ObsEq [Ob.arr true 1 (List.map strC L)] [Ob.arr true 1 (List.map strC L)] ∧ AV.sv (SV.one (AC.ref 0)) = AV.sv (SV.one (AC.ref 0))) ∧ True) := by
 kernel_rfl
theorem c_toStringS (L : List ByteArray) (h : L.length ≤ 1048576)  : P_c_toStringS L := by
  refine CallOK.ofRun wide (run_c_toStringS L) Try.call136 Try.func136 rfl rfl rfl ?_
  with_reducible repeat' (first | apply And.intro | exact flatI | exact flatS | exact rowLens | (intro; skip) | apply obsN | apply obsC | apply obA | apply obM | apply obB | apply svA | apply tupA | apply lcA | apply lcS | apply svC | apply liC | apply lbC | apply lsC | apply vIc | apply vBc | apply vSc | apply vLc | apply mapC | apply Hc_toStringSLa | apply Ec_toStringSLa | apply Sc_toStringSLa | apply EW0c_toStringSLa)
  all_goals (try simp only [std] at *)
  all_goals (try (first | with_reducible rfl | omega | assumption | exact rowGet (by first | omega | (simp only [std]; omega) | grind) | exact getC (by first | omega | (simp only [std]; omega) | grind) rfl | exact fill_step (by first | omega | (simp only [std]; omega) | grind) (by first | rfl | exact (Row.eq _).trans rfl) | exact fill_init (by first | rfl | exact (Row.eq _).trans rfl) | grind [snocI, snocS, rowSnoc]))

abbrev P_c_toDatumS (L : List Datum) : Prop := CallOK Try.prog 137 [] [ll (L.map datumC)] [.arr true 4 (L.map datumC)] (.sv (.one (.ref 0)))
abbrev P_c_toDatum (x : Datum) : Prop := CallOK Try.prog 56 [] [datumA x] (datumO x) (.sv (datumR x 0))
def Tc_toDatumSLa (L : List Datum) (x0 : SV) (x1 : Ob) : St := St.mk (regsOf 23 [(0, AV.sv (ll (List.map datumC L))), (3, AV.sv (SV.one (AC.ref 0))), (4, AV.sv x0)]) [x1] 0 
def Lc_toDatumSLa (L : List Datum) (k : Nat) : St := Tc_toDatumSLa L (li (↑k : Int)) (Ob.arr true 4 (List.map datumC (fillTo L k))) 
def Ic_toDatumSLa (L : List Datum) : Nat → St → Prop := Head (Lc_toDatumSLa L) (fun k => k ≤ List.length L ∧ List.length L ≤ 9223372036854775807) fun k => List.length L - k 
def W0c_toDatumSLa (L : List Datum) (x0 : Ob) : St := St.mk (regsOf 23 [(3, AV.sv (SV.one (AC.ref 0)))]) [x0] 0 
def Yc_toDatumSLa (L : List Datum) : List (Prop × AEx × St) := [(True, AEx.exit 0, W0c_toDatumSLa L (Ob.arr true 4 (List.map datumC L)))]
theorem Hc_toDatumSLa {L : List Datum} {k : Nat} {m : Nat} (h : (fun k => k ≤ List.length L ∧ List.length L ≤ 9223372036854775807) k) (hm : (fun k => List.length L - k) k = m) :
 Ic_toDatumSLa L m (Lc_toDatumSLa L k) := hm ▸ Head.mk h
theorem Ec_toDatumSLa {L : List Datum} {k : Nat} {x0 : SV} {x1 : Ob} (h0 : x0 = (li (↑k : Int))) (h1 : x1 = (Ob.arr true 4 (List.map datumC (fillTo L k)))) : Tc_toDatumSLa L x0 x1
 = Lc_toDatumSLa L k := by (rw [h0, h1]; rfl)
theorem EW0c_toDatumSLa {L : List Datum} {x0 y0 : Ob} (h0 : x0 = y0) : W0c_toDatumSLa L x0 = W0c_toDatumSLa L y0 := by rw [h0]
theorem run_c_toDatumSLa (L : List Datum) (k : Nat) : aexec Try.prog (loopAt Try.f137 0) (Lc_toDatumSLa L k) [Orc.br [Orc.cells (datumF (List.getD L k default)), Orc.call [Mode.rd]
 (datumO (List.getD L k default)) (AV.sv (datumR (List.getD L k default) 0)), Orc.cells (datumF (List.getD (fillTo L k) (Int.toNat (↑k : Int)) default)), Orc.ghost (Ghost.sel [0]
 [0, 3, 4]), Orc.goto (List.length L - (k + 1)) (Lc_toDatumSLa L (k + 1))] [Orc.ghost (Ghost.sel [0] [3]), Orc.out 0]] (loopK (Ic_toDatumSLa L) (Yc_toDatumSLa L) (List.length L -
 k)) = (List.length (List.map datumC L) ≤ 9223372036854775807 → (decide ((↑k : Int) < (↑(List.length (List.map datumC L)) : Int)) = true → (0 ≤ (↑k : Int) ∧ (List.map datumC
 L)[Int.toNat (↑k : Int)]? = some (datumF (List.getD L k default))) ∧ P_c_toDatum (List.getD L k default) ∧ (0 ≤ (↑k : Int) ∧ Int.toNat (↑k : Int) < List.length (List.map datumC
 (fillTo L k))) ∧ (List.map datumC (fillTo L k))[Int.toNat (↑k : Int)]? = some (datumF (List.getD (fillTo L k) (Int.toNat (↑k : Int)) default)) ∧ rng IntKind.i64 ((↑k : Int) + 1) ∧
 List.length L - (k + 1) < List.length L - k ∧ Tc_toDatumSLa L (li ((↑k : Int) + 1)) (Ob.arr true 4 (List.set (List.map datumC (fillTo L k)) (Int.toNat (↑k : Int)) (datumF
 (List.getD L k default)))) = Lc_toDatumSLa L (k + 1) ∧ Ic_toDatumSLa L (List.length L - (k + 1)) (Lc_toDatumSLa L (k + 1))) ∧ (decide ((↑k : Int) < (↑(List.length (List.map datumC
 L)) : Int)) = false → True ∧ W0c_toDatumSLa L (Ob.arr true 4 (List.map datumC (fillTo L k))) = W0c_toDatumSLa L (Ob.arr true 4 (List.map datumC L)))) := by kernel_rfl
theorem Sc_toDatumSLa (L : List Datum) (h : List.length L + sumBy wD L ≤ 1048576) (ih : ∀ (x : Datum), x ∈ L → wD x ≤ 1048576 → P_c_toDatum x)  : LoopSem Try.prog (loopAt Try.f137
 0) (Ic_toDatumSLa L) (Yc_toDatumSLa L) := by
  refine LoopSem.ofHead wide fun k h => ⟨_, _, run_c_toDatumSLa L k, ?_⟩
  with_reducible repeat' (first | apply And.intro | exact flatI | exact flatS | exact rowLens | (intro; skip) | apply obsN | apply obsC | apply obA | apply obM | apply obB | apply svA | apply tupA | apply lcA | apply lcS | apply svC | apply liC | apply lbC | apply lsC | apply vIc | apply vBc | apply vSc | apply vLc | apply mapC | apply Hc_toDatumSLa | apply Ec_toDatumSLa | apply EW0c_toDatumSLa | apply ih)
  all_goals (try simp only [std] at *)
  all_goals (try (first | with_reducible rfl | omega | assumption | exact rowGet (by first | omega | (simp only [std]; omega) | grind) | exact getC (by first | omega | (simp only [std]; omega) | grind) rfl | exact fill_step (by first | omega | (simp only [std]; omega) | grind) (by first | rfl | exact (Row.eq _).trans rfl) | exact fill_init (by first | rfl | exact (Row.eq _).trans rfl) | grind [fillTo_all, getD_mem', sumBy_mem, snocI, snocS, rowSnoc]))
theorem run_c_toDatumS (L : List Datum) : aexec Try.prog (Option.getD (Func.body Try.f137) Code.skip) (entry [] [ll (List.map datumC L)] 23) [Orc.ghost (Ghost.sel [0] [0, 3, 4]),
 Orc.loop (List.length L - 0) (Lc_toDatumSLa L 0) (Ic_toDatumSLa L) [(True, AEx.exit 0, W0c_toDatumSLa L (Ob.arr true 4 (List.map datumC L)), [Orc.fin [0]])]] (finK Try.prog
 [ResultVar.tmp 2] [Ob.arr true 4 (List.map datumC L)] (AV.sv (SV.one (AC.ref 0)))) = (List.length (List.map datumC L) ≤ 9223372036854775807 → (0 ≤ (↑(List.length (List.map datumC
 L)) : Int) ∧ 56 * Int.toNat (↑(List.length (List.map datumC L)) : Int) ≤ 281474976710656) ∧ Tc_toDatumSLa L (li 0) (Ob.arr true 4 (List.replicate (Int.toNat (↑(List.length
 (List.map datumC L)) : Int)) [cI 0, cI 0, cS (ByteArray.mk #[]), Cell.list []])) = Lc_toDatumSLa L 0 ∧ Ic_toDatumSLa L (List.length L - 0) (Lc_toDatumSLa L 0) ∧ LoopSem Try.prog
 (loopAt Try.f137 0) (Ic_toDatumSLa L) (Yc_toDatumSLa L) ∧ (True → ObsEq [Ob.arr true 4 (List.map datumC L)] [Ob.arr true 4 (List.map datumC L)] ∧ AV.sv (SV.one (AC.ref 0)) = AV.sv
 (SV.one (AC.ref 0))) ∧ True) := by kernel_rfl
theorem c_toDatumS (L : List Datum) (h : L.length + sumBy wD L ≤ 1048576) (ih : ∀ x ∈ L, ∀ (h : wD x ≤ 1048576), P_c_toDatum x)  : P_c_toDatumS L := by
  refine CallOK.ofRun wide (run_c_toDatumS L) Try.call137 Try.func137 rfl rfl rfl ?_
  with_reducible repeat' (first | apply And.intro | exact flatI | exact flatS | exact rowLens | (intro; skip) | apply obsN | apply obsC | apply obA | apply obM | apply obB | apply svA | apply tupA | apply lcA | apply lcS | apply svC | apply liC | apply lbC | apply lsC | apply vIc | apply vBc | apply vSc | apply vLc | apply mapC | apply Hc_toDatumSLa | apply Ec_toDatumSLa | apply Sc_toDatumSLa | apply EW0c_toDatumSLa)
  all_goals (try simp only [std] at *)
  all_goals (try (first | with_reducible rfl | omega | assumption | exact rowGet (by first | omega | (simp only [std]; omega) | grind) | exact getC (by first | omega | (simp only [std]; omega) | grind) rfl | exact fill_step (by first | omega | (simp only [std]; omega) | grind) (by first | rfl | exact (Row.eq _).trans rfl) | exact fill_init (by first | rfl | exact (Row.eq _).trans rfl) | grind [snocI, snocS, rowSnoc]))

theorem run_c_toDatum_s (x : Datum) : aexec Try.prog (Option.getD (Func.body Try.f56) Code.skip) (entry [] [datumA x] 18) [Orc.call [Mode.rd] [Ob.arr true 4 (List.map datumC
 (Datum.items x))] (AV.sv (SV.one (AC.ref 0))), Orc.fin [3]] (finK Try.prog [ResultVar.cell 2 35] (datumO x) (AV.sv (datumR x 0))) = (P_c_toDatumS (Datum.items x) ∧ ObsEq [Ob.arr
 true 4 (List.map datumC (Datum.items x))] [Ob.arr true 4 (List.map datumC (Datum.items x))] ∧ AV.sv (SV.agg [vI (Datum.kind x), vI (Datum.number x), vS (Datum.text x), AC.ref 0])
 = AV.sv (SV.agg [vI (Datum.kind x), vI (Datum.number x), vS (Datum.text x), AC.ref 0])) := by kernel_rfl
theorem c_toDatum_s (x : Datum) (h : wD x ≤ 1048576) (ih : ∀ z ∈ x.items, ∀ (h : wD z ≤ 1048576), P_c_toDatum z)  : P_c_toDatum x := by
  refine CallOK.ofRun wide (run_c_toDatum_s x) Try.call56 Try.func56 rfl rfl rfl ?_
  with_reducible repeat' (first | apply And.intro | exact flatI | exact flatS | exact rowLens | (intro; skip) | apply obsN | apply obsC | apply obA | apply obM | apply obB | apply svA | apply tupA | apply lcA | apply lcS | apply svC | apply liC | apply lbC | apply lsC | apply vIc | apply vBc | apply vSc | apply vLc | apply mapC | apply c_toDatumS | apply ih)
  all_goals (try simp only [std] at *)
  all_goals (try (first | with_reducible rfl | omega | assumption | exact rowGet (by first | omega | (simp only [std]; omega) | grind) | exact getC (by first | omega | (simp only [std]; omega) | grind) rfl | exact fill_step (by first | omega | (simp only [std]; omega) | grind) (by first | rfl | exact (Row.eq _).trans rfl) | exact fill_init (by first | rfl | exact (Row.eq _).trans rfl) | grind [wD_eq, wS, snocI, snocS, rowSnoc]))
theorem c_toDatum (x : Datum) : ∀ (h : wD x ≤ 1048576), P_c_toDatum x := Datum.ind (P := fun x => ∀ (h : wD x ≤ 1048576), P_c_toDatum x) (fun x ih h => c_toDatum_s x h ih) x

abbrev P_c_toCoreS (L : List Core) : Prop := CallOK Try.prog 112 [] [ll (L.map coreC)] [.arr true 8 (L.map coreC)] (.sv (.one (.ref 0)))
abbrev P_c_toCore (x : Core) : Prop := CallOK Try.prog 25 [] [coreA x] (coreO x) (.sv (coreR x 0))
def Tc_toCoreSLa (L : List Core) (x0 : SV) (x1 : Ob) : St := St.mk (regsOf 23 [(0, AV.sv (ll (List.map coreC L))), (3, AV.sv (SV.one (AC.ref 0))), (4, AV.sv x0)]) [x1] 0 
def Lc_toCoreSLa (L : List Core) (k : Nat) : St := Tc_toCoreSLa L (li (↑k : Int)) (Ob.arr true 8 (List.map coreC (fillTo L k))) 
def Ic_toCoreSLa (L : List Core) : Nat → St → Prop := Head (Lc_toCoreSLa L) (fun k => k ≤ List.length L ∧ List.length L ≤ 9223372036854775807) fun k => List.length L - k 
def W0c_toCoreSLa (L : List Core) (x0 : Ob) : St := St.mk (regsOf 23 [(3, AV.sv (SV.one (AC.ref 0)))]) [x0] 0 
def Yc_toCoreSLa (L : List Core) : List (Prop × AEx × St) := [(True, AEx.exit 0, W0c_toCoreSLa L (Ob.arr true 8 (List.map coreC L)))]
theorem Hc_toCoreSLa {L : List Core} {k : Nat} {m : Nat} (h : (fun k => k ≤ List.length L ∧ List.length L ≤ 9223372036854775807) k) (hm : (fun k => List.length L - k) k = m) :
 Ic_toCoreSLa L m (Lc_toCoreSLa L k) := hm ▸ Head.mk h
theorem Ec_toCoreSLa {L : List Core} {k : Nat} {x0 : SV} {x1 : Ob} (h0 : x0 = (li (↑k : Int))) (h1 : x1 = (Ob.arr true 8 (List.map coreC (fillTo L k)))) : Tc_toCoreSLa L x0 x1 =
 Lc_toCoreSLa L k := by (rw [h0, h1]; rfl)
theorem EW0c_toCoreSLa {L : List Core} {x0 y0 : Ob} (h0 : x0 = y0) : W0c_toCoreSLa L x0 = W0c_toCoreSLa L y0 := by rw [h0]
theorem run_c_toCoreSLa (L : List Core) (k : Nat) : aexec Try.prog (loopAt Try.f112 0) (Lc_toCoreSLa L k) [Orc.br [Orc.cells (coreF (List.getD L k default)), Orc.call [Mode.rd]
 (coreO (List.getD L k default)) (AV.sv (coreR (List.getD L k default) 0)), Orc.cells (coreF (List.getD (fillTo L k) (Int.toNat (↑k : Int)) default)), Orc.ghost (Ghost.sel [0] [0,
 3, 4]), Orc.goto (List.length L - (k + 1)) (Lc_toCoreSLa L (k + 1))] [Orc.ghost (Ghost.sel [0] [3]), Orc.out 0]] (loopK (Ic_toCoreSLa L) (Yc_toCoreSLa L) (List.length L - k)) =
 (List.length (List.map coreC L) ≤ 9223372036854775807 → (decide ((↑k : Int) < (↑(List.length (List.map coreC L)) : Int)) = true → (0 ≤ (↑k : Int) ∧ (List.map coreC L)[Int.toNat
 (↑k : Int)]? = some (coreF (List.getD L k default))) ∧ P_c_toCore (List.getD L k default) ∧ (0 ≤ (↑k : Int) ∧ Int.toNat (↑k : Int) < List.length (List.map coreC (fillTo L k))) ∧
 (List.map coreC (fillTo L k))[Int.toNat (↑k : Int)]? = some (coreF (List.getD (fillTo L k) (Int.toNat (↑k : Int)) default)) ∧ rng IntKind.i64 ((↑k : Int) + 1) ∧ List.length L - (k
 + 1) < List.length L - k ∧ Tc_toCoreSLa L (li ((↑k : Int) + 1)) (Ob.arr true 8 (List.set (List.map coreC (fillTo L k)) (Int.toNat (↑k : Int)) (coreF (List.getD L k default)))) =
 Lc_toCoreSLa L (k + 1) ∧ Ic_toCoreSLa L (List.length L - (k + 1)) (Lc_toCoreSLa L (k + 1))) ∧ (decide ((↑k : Int) < (↑(List.length (List.map coreC L)) : Int)) = false → True ∧
 W0c_toCoreSLa L (Ob.arr true 8 (List.map coreC (fillTo L k))) = W0c_toCoreSLa L (Ob.arr true 8 (List.map coreC L)))) := by kernel_rfl
theorem Sc_toCoreSLa (L : List Core) (h : List.length L + sumBy wC L ≤ 1048576) (ih : ∀ (x : Core), x ∈ L → wC x ≤ 1048576 → P_c_toCore x)  : LoopSem Try.prog (loopAt Try.f112 0)
 (Ic_toCoreSLa L) (Yc_toCoreSLa L) := by
  refine LoopSem.ofHead wide fun k h => ⟨_, _, run_c_toCoreSLa L k, ?_⟩
  with_reducible repeat' (first | apply And.intro | exact flatI | exact flatS | exact rowLens | (intro; skip) | apply obsN | apply obsC | apply obA | apply obM | apply obB | apply svA | apply tupA | apply lcA | apply lcS | apply svC | apply liC | apply lbC | apply lsC | apply vIc | apply vBc | apply vSc | apply vLc | apply mapC | apply Hc_toCoreSLa | apply Ec_toCoreSLa | apply EW0c_toCoreSLa | apply ih)
  all_goals (try simp only [std] at *)
  all_goals (try (first | with_reducible rfl | omega | assumption | exact rowGet (by first | omega | (simp only [std]; omega) | grind) | exact getC (by first | omega | (simp only [std]; omega) | grind) rfl | exact fill_step (by first | omega | (simp only [std]; omega) | grind) (by first | rfl | exact (Row.eq _).trans rfl) | exact fill_init (by first | rfl | exact (Row.eq _).trans rfl) | grind [fillTo_all, getD_mem', sumBy_mem, snocI, snocS, rowSnoc]))
theorem run_c_toCoreS (L : List Core) : aexec Try.prog (Option.getD (Func.body Try.f112) Code.skip) (entry [] [ll (List.map coreC L)] 23) [Orc.ghost (Ghost.sel [0] [0, 3, 4]),
 Orc.loop (List.length L - 0) (Lc_toCoreSLa L 0) (Ic_toCoreSLa L) [(True, AEx.exit 0, W0c_toCoreSLa L (Ob.arr true 8 (List.map coreC L)), [Orc.fin [0]])]] (finK Try.prog
 [ResultVar.tmp 2] [Ob.arr true 8 (List.map coreC L)] (AV.sv (SV.one (AC.ref 0)))) = (List.length (List.map coreC L) ≤ 9223372036854775807 → (0 ≤ (↑(List.length (List.map coreC L))
 : Int) ∧ 120 * Int.toNat (↑(List.length (List.map coreC L)) : Int) ≤ 281474976710656) ∧ Tc_toCoreSLa L (li 0) (Ob.arr true 8 (List.replicate (Int.toNat (↑(List.length (List.map
 coreC L)) : Int)) [cI 0, cI 0, Cell.list [], cI 0, cI 0, cS (ByteArray.mk #[]), Cell.list [], Cell.list []])) = Lc_toCoreSLa L 0 ∧ Ic_toCoreSLa L (List.length L - 0) (Lc_toCoreSLa
 L 0) ∧ LoopSem Try.prog (loopAt Try.f112 0) (Ic_toCoreSLa L) (Yc_toCoreSLa L) ∧ (True → ObsEq [Ob.arr true 8 (List.map coreC L)] [Ob.arr true 8 (List.map coreC L)] ∧ AV.sv (SV.one
 (AC.ref 0)) = AV.sv (SV.one (AC.ref 0))) ∧ True) := by kernel_rfl
theorem c_toCoreS (L : List Core) (h : L.length + sumBy wC L ≤ 1048576) (ih : ∀ x ∈ L, ∀ (h : wC x ≤ 1048576), P_c_toCore x)  : P_c_toCoreS L := by
  refine CallOK.ofRun wide (run_c_toCoreS L) Try.call112 Try.func112 rfl rfl rfl ?_
  with_reducible repeat' (first | apply And.intro | exact flatI | exact flatS | exact rowLens | (intro; skip) | apply obsN | apply obsC | apply obA | apply obM | apply obB | apply svA | apply tupA | apply lcA | apply lcS | apply svC | apply liC | apply lbC | apply lsC | apply vIc | apply vBc | apply vSc | apply vLc | apply mapC | apply Hc_toCoreSLa | apply Ec_toCoreSLa | apply Sc_toCoreSLa | apply EW0c_toCoreSLa)
  all_goals (try simp only [std] at *)
  all_goals (try (first | with_reducible rfl | omega | assumption | exact rowGet (by first | omega | (simp only [std]; omega) | grind) | exact getC (by first | omega | (simp only [std]; omega) | grind) rfl | exact fill_step (by first | omega | (simp only [std]; omega) | grind) (by first | rfl | exact (Row.eq _).trans rfl) | exact fill_init (by first | rfl | exact (Row.eq _).trans rfl) | grind [snocI, snocS, rowSnoc]))

theorem run_c_toCore_s (x : Core) : aexec Try.prog (Option.getD (Func.body Try.f25) Code.skip) (entry [] [coreA x] 23) [Orc.call [Mode.rd] [Ob.arr true 1 (List.map intC
 (Core.params x))] (AV.sv (SV.one (AC.ref 0))), Orc.call [Mode.rd] (datumO (Core.datum x)) (AV.sv (datumR (Core.datum x) 0)), Orc.call [Mode.rd] [Ob.arr true 8 (List.map coreC
 (Core.kids x))] (AV.sv (SV.one (AC.ref 0))), Orc.fin [3, 4, 5]] (finK Try.prog [ResultVar.cell 2 38] (coreO x) (AV.sv (coreR x 0))) = (P_c_toIntS (Core.params x) ∧ P_c_toDatum
 (Core.datum x) ∧ P_c_toCoreS (Core.kids x) ∧ ObsEq [Ob.arr true 1 (List.map intC (Core.params x)), Ob.arr true 4 (List.map datumC (Datum.items (Core.datum x))), Ob.arr true 8
 (List.map coreC (Core.kids x))] [Ob.arr true 1 (List.map intC (Core.params x)), Ob.arr true 4 (List.map datumC (Datum.items (Core.datum x))), Ob.arr true 8 (List.map coreC
 (Core.kids x))] ∧ AV.sv (SV.agg [vI (Core.kind x), vI (Core.number x), AC.ref 0, vI (Datum.kind (Core.datum x)), vI (Datum.number (Core.datum x)), vS (Datum.text (Core.datum x)),
 AC.ref 1, AC.ref 2]) = AV.sv (SV.agg [vI (Core.kind x), vI (Core.number x), AC.ref 0, vI (Datum.kind (Core.datum x)), vI (Datum.number (Core.datum x)), vS (Datum.text (Core.datum
 x)), AC.ref 1, AC.ref 2])) := by kernel_rfl
theorem c_toCore_s (x : Core) (h : wC x ≤ 1048576) (ih : ∀ z ∈ x.kids, ∀ (h : wC z ≤ 1048576), P_c_toCore z)  : P_c_toCore x := by
  refine CallOK.ofRun wide (run_c_toCore_s x) Try.call25 Try.func25 rfl rfl rfl ?_
  with_reducible repeat' (first | apply And.intro | exact flatI | exact flatS | exact rowLens | (intro; skip) | apply obsN | apply obsC | apply obA | apply obM | apply obB | apply svA | apply tupA | apply lcA | apply lcS | apply svC | apply liC | apply lbC | apply lsC | apply vIc | apply vBc | apply vSc | apply vLc | apply mapC | apply c_toIntS | apply c_toDatum | apply c_toCoreS | apply ih)
  all_goals (try simp only [std] at *)
  all_goals (try (first | with_reducible rfl | omega | assumption | exact rowGet (by first | omega | (simp only [std]; omega) | grind) | exact getC (by first | omega | (simp only [std]; omega) | grind) rfl | exact fill_step (by first | omega | (simp only [std]; omega) | grind) (by first | rfl | exact (Row.eq _).trans rfl) | exact fill_init (by first | rfl | exact (Row.eq _).trans rfl) | grind [wC_eq, wS, snocI, snocS, rowSnoc]))
theorem c_toCore (x : Core) : ∀ (h : wC x ≤ 1048576), P_c_toCore x := Core.ind (P := fun x => ∀ (h : wC x ≤ 1048576), P_c_toCore x) (fun x ih h => c_toCore_s x h ih) x

abbrev P_c_toSyntaxS (L : List Syntax) : Prop := CallOK Try.prog 90 [] [ll (L.map syntaxC)] [.arr true 5 (L.map syntaxC)] (.sv (.one (.ref 0)))
abbrev P_c_toSyntax (x : Syntax) : Prop := CallOK Try.prog 66 [] [syntaxA x] (syntaxO x) (.sv (syntaxR x 0))
def Tc_toSyntaxSLa (L : List Syntax) (x0 : SV) (x1 : Ob) : St := St.mk (regsOf 23 [(0, AV.sv (ll (List.map syntaxC L))), (3, AV.sv (SV.one (AC.ref 0))), (4, AV.sv x0)]) [x1] 0 
def Lc_toSyntaxSLa (L : List Syntax) (k : Nat) : St := Tc_toSyntaxSLa L (li (↑k : Int)) (Ob.arr true 5 (List.map syntaxC (fillTo L k))) 
def Ic_toSyntaxSLa (L : List Syntax) : Nat → St → Prop := Head (Lc_toSyntaxSLa L) (fun k => k ≤ List.length L ∧ List.length L ≤ 9223372036854775807) fun k => List.length L - k 
def W0c_toSyntaxSLa (L : List Syntax) (x0 : Ob) : St := St.mk (regsOf 23 [(3, AV.sv (SV.one (AC.ref 0)))]) [x0] 0 
def Yc_toSyntaxSLa (L : List Syntax) : List (Prop × AEx × St) := [(True, AEx.exit 0, W0c_toSyntaxSLa L (Ob.arr true 5 (List.map syntaxC L)))]
theorem Hc_toSyntaxSLa {L : List Syntax} {k : Nat} {m : Nat} (h : (fun k => k ≤ List.length L ∧ List.length L ≤ 9223372036854775807) k) (hm : (fun k => List.length L - k) k = m) :
 Ic_toSyntaxSLa L m (Lc_toSyntaxSLa L k) := hm ▸ Head.mk h
theorem Ec_toSyntaxSLa {L : List Syntax} {k : Nat} {x0 : SV} {x1 : Ob} (h0 : x0 = (li (↑k : Int))) (h1 : x1 = (Ob.arr true 5 (List.map syntaxC (fillTo L k)))) : Tc_toSyntaxSLa L x0
 x1 = Lc_toSyntaxSLa L k := by (rw [h0, h1]; rfl)
theorem EW0c_toSyntaxSLa {L : List Syntax} {x0 y0 : Ob} (h0 : x0 = y0) : W0c_toSyntaxSLa L x0 = W0c_toSyntaxSLa L y0 := by rw [h0]
theorem run_c_toSyntaxSLa (L : List Syntax) (k : Nat) : aexec Try.prog (loopAt Try.f90 0) (Lc_toSyntaxSLa L k) [Orc.br [Orc.cells (syntaxF (List.getD L k default)), Orc.call
 [Mode.rd] (syntaxO (List.getD L k default)) (AV.sv (syntaxR (List.getD L k default) 0)), Orc.cells (syntaxF (List.getD (fillTo L k) (Int.toNat (↑k : Int)) default)), Orc.ghost
 (Ghost.sel [0] [0, 3, 4]), Orc.goto (List.length L - (k + 1)) (Lc_toSyntaxSLa L (k + 1))] [Orc.ghost (Ghost.sel [0] [3]), Orc.out 0]] (loopK (Ic_toSyntaxSLa L) (Yc_toSyntaxSLa L)
 (List.length L - k)) = (List.length (List.map syntaxC L) ≤ 9223372036854775807 → (decide ((↑k : Int) < (↑(List.length (List.map syntaxC L)) : Int)) = true → (0 ≤ (↑k : Int) ∧
 (List.map syntaxC L)[Int.toNat (↑k : Int)]? = some (syntaxF (List.getD L k default))) ∧ P_c_toSyntax (List.getD L k default) ∧ (0 ≤ (↑k : Int) ∧ Int.toNat (↑k : Int) < List.length
 (List.map syntaxC (fillTo L k))) ∧ (List.map syntaxC (fillTo L k))[Int.toNat (↑k : Int)]? = some (syntaxF (List.getD (fillTo L k) (Int.toNat (↑k : Int)) default)) ∧ rng
 IntKind.i64 ((↑k : Int) + 1) ∧ List.length L - (k + 1) < List.length L - k ∧ Tc_toSyntaxSLa L (li ((↑k : Int) + 1)) (Ob.arr true 5 (List.set (List.map syntaxC (fillTo L k))
 (Int.toNat (↑k : Int)) (syntaxF (List.getD L k default)))) = Lc_toSyntaxSLa L (k + 1) ∧ Ic_toSyntaxSLa L (List.length L - (k + 1)) (Lc_toSyntaxSLa L (k + 1))) ∧ (decide ((↑k :
 Int) < (↑(List.length (List.map syntaxC L)) : Int)) = false → True ∧ W0c_toSyntaxSLa L (Ob.arr true 5 (List.map syntaxC (fillTo L k))) = W0c_toSyntaxSLa L (Ob.arr true 5 (List.map
 syntaxC L)))) := by kernel_rfl
theorem Sc_toSyntaxSLa (L : List Syntax) (h : List.length L + sumBy wY L ≤ 1048576) (ih : ∀ (x : Syntax), x ∈ L → wY x ≤ 1048576 → P_c_toSyntax x)  : LoopSem Try.prog (loopAt
 Try.f90 0) (Ic_toSyntaxSLa L) (Yc_toSyntaxSLa L) := by
  refine LoopSem.ofHead wide fun k h => ⟨_, _, run_c_toSyntaxSLa L k, ?_⟩
  with_reducible repeat' (first | apply And.intro | exact flatI | exact flatS | exact rowLens | (intro; skip) | apply obsN | apply obsC | apply obA | apply obM | apply obB | apply svA | apply tupA | apply lcA | apply lcS | apply svC | apply liC | apply lbC | apply lsC | apply vIc | apply vBc | apply vSc | apply vLc | apply mapC | apply Hc_toSyntaxSLa | apply Ec_toSyntaxSLa | apply EW0c_toSyntaxSLa | apply ih)
  all_goals (try simp only [std] at *)
  all_goals (try (first | with_reducible rfl | omega | assumption | exact rowGet (by first | omega | (simp only [std]; omega) | grind) | exact getC (by first | omega | (simp only [std]; omega) | grind) rfl | exact fill_step (by first | omega | (simp only [std]; omega) | grind) (by first | rfl | exact (Row.eq _).trans rfl) | exact fill_init (by first | rfl | exact (Row.eq _).trans rfl) | grind [fillTo_all, getD_mem', sumBy_mem, snocI, snocS, rowSnoc]))
theorem run_c_toSyntaxS (L : List Syntax) : aexec Try.prog (Option.getD (Func.body Try.f90) Code.skip) (entry [] [ll (List.map syntaxC L)] 23) [Orc.ghost (Ghost.sel [0] [0, 3, 4]),
 Orc.loop (List.length L - 0) (Lc_toSyntaxSLa L 0) (Ic_toSyntaxSLa L) [(True, AEx.exit 0, W0c_toSyntaxSLa L (Ob.arr true 5 (List.map syntaxC L)), [Orc.fin [0]])]] (finK Try.prog
 [ResultVar.tmp 2] [Ob.arr true 5 (List.map syntaxC L)] (AV.sv (SV.one (AC.ref 0)))) = (List.length (List.map syntaxC L) ≤ 9223372036854775807 → (0 ≤ (↑(List.length (List.map
 syntaxC L)) : Int) ∧ 80 * Int.toNat (↑(List.length (List.map syntaxC L)) : Int) ≤ 281474976710656) ∧ Tc_toSyntaxSLa L (li 0) (Ob.arr true 5 (List.replicate (Int.toNat
 (↑(List.length (List.map syntaxC L)) : Int)) [cI 0, cI 0, cS (ByteArray.mk #[]), Cell.list [], Cell.list []])) = Lc_toSyntaxSLa L 0 ∧ Ic_toSyntaxSLa L (List.length L - 0)
 (Lc_toSyntaxSLa L 0) ∧ LoopSem Try.prog (loopAt Try.f90 0) (Ic_toSyntaxSLa L) (Yc_toSyntaxSLa L) ∧ (True → ObsEq [Ob.arr true 5 (List.map syntaxC L)] [Ob.arr true 5 (List.map
 syntaxC L)] ∧ AV.sv (SV.one (AC.ref 0)) = AV.sv (SV.one (AC.ref 0))) ∧ True) := by kernel_rfl
theorem c_toSyntaxS (L : List Syntax) (h : L.length + sumBy wY L ≤ 1048576) (ih : ∀ x ∈ L, ∀ (h : wY x ≤ 1048576), P_c_toSyntax x)  : P_c_toSyntaxS L := by
  refine CallOK.ofRun wide (run_c_toSyntaxS L) Try.call90 Try.func90 rfl rfl rfl ?_
  with_reducible repeat' (first | apply And.intro | exact flatI | exact flatS | exact rowLens | (intro; skip) | apply obsN | apply obsC | apply obA | apply obM | apply obB | apply svA | apply tupA | apply lcA | apply lcS | apply svC | apply liC | apply lbC | apply lsC | apply vIc | apply vBc | apply vSc | apply vLc | apply mapC | apply Hc_toSyntaxSLa | apply Ec_toSyntaxSLa | apply Sc_toSyntaxSLa | apply EW0c_toSyntaxSLa)
  all_goals (try simp only [std] at *)
  all_goals (try (first | with_reducible rfl | omega | assumption | exact rowGet (by first | omega | (simp only [std]; omega) | grind) | exact getC (by first | omega | (simp only [std]; omega) | grind) rfl | exact fill_step (by first | omega | (simp only [std]; omega) | grind) (by first | rfl | exact (Row.eq _).trans rfl) | exact fill_init (by first | rfl | exact (Row.eq _).trans rfl) | grind [snocI, snocS, rowSnoc]))

theorem run_c_toSyntax_s (x : Syntax) : aexec Try.prog (Option.getD (Func.body Try.f66) Code.skip) (entry [] [syntaxA x] 22) [Orc.call [Mode.rd] [Ob.arr true 1 (List.map intC
 (Syntax.scopes x))] (AV.sv (SV.one (AC.ref 0))), Orc.call [Mode.rd] [Ob.arr true 5 (List.map syntaxC (Syntax.items x))] (AV.sv (SV.one (AC.ref 0))), Orc.fin [3, 4]] (finK Try.prog
 [ResultVar.cell 2 96] (syntaxO x) (AV.sv (syntaxR x 0))) = (P_c_toIntS (Syntax.scopes x) ∧ P_c_toSyntaxS (Syntax.items x) ∧ ObsEq [Ob.arr true 1 (List.map intC (Syntax.scopes x)),
 Ob.arr true 5 (List.map syntaxC (Syntax.items x))] [Ob.arr true 1 (List.map intC (Syntax.scopes x)), Ob.arr true 5 (List.map syntaxC (Syntax.items x))] ∧ AV.sv (SV.agg [vI
 (Syntax.kind x), vI (Syntax.number x), vS (Syntax.text x), AC.ref 0, AC.ref 1]) = AV.sv (SV.agg [vI (Syntax.kind x), vI (Syntax.number x), vS (Syntax.text x), AC.ref 0, AC.ref
 1])) := by kernel_rfl
theorem c_toSyntax_s (x : Syntax) (h : wY x ≤ 1048576) (ih : ∀ z ∈ x.items, ∀ (h : wY z ≤ 1048576), P_c_toSyntax z)  : P_c_toSyntax x := by
  refine CallOK.ofRun wide (run_c_toSyntax_s x) Try.call66 Try.func66 rfl rfl rfl ?_
  with_reducible repeat' (first | apply And.intro | exact flatI | exact flatS | exact rowLens | (intro; skip) | apply obsN | apply obsC | apply obA | apply obM | apply obB | apply svA | apply tupA | apply lcA | apply lcS | apply svC | apply liC | apply lbC | apply lsC | apply vIc | apply vBc | apply vSc | apply vLc | apply mapC | apply c_toIntS | apply c_toSyntaxS | apply ih)
  all_goals (try simp only [std] at *)
  all_goals (try (first | with_reducible rfl | omega | assumption | exact rowGet (by first | omega | (simp only [std]; omega) | grind) | exact getC (by first | omega | (simp only [std]; omega) | grind) rfl | exact fill_step (by first | omega | (simp only [std]; omega) | grind) (by first | rfl | exact (Row.eq _).trans rfl) | exact fill_init (by first | rfl | exact (Row.eq _).trans rfl) | grind [wY_eq, wS, snocI, snocS, rowSnoc]))
theorem c_toSyntax (x : Syntax) : ∀ (h : wY x ≤ 1048576), P_c_toSyntax x := Syntax.ind (P := fun x => ∀ (h : wY x ≤ 1048576), P_c_toSyntax x) (fun x ih h => c_toSyntax_s x h ih) x

abbrev P_c_toBinding (x : Binding) : Prop := CallOK Try.prog 237 [] [bindingA x] (bindingO x) (.sv (bindingR x 0))
theorem run_c_toBinding (x : Binding) : aexec Try.prog (Option.getD (Func.body Try.f237) Code.skip) (entry [] [bindingA x] 18) [Orc.call [Mode.rd] [Ob.arr true 1 (List.map intC
 (Binding.scopes x))] (AV.sv (SV.one (AC.ref 0))), Orc.fin [3]] (finK Try.prog [ResultVar.cell 2 240] (bindingO x) (AV.sv (bindingR x 0))) = (P_c_toIntS (Binding.scopes x) ∧ ObsEq
 [Ob.arr true 1 (List.map intC (Binding.scopes x))] [Ob.arr true 1 (List.map intC (Binding.scopes x))] ∧ AV.sv (SV.agg [vS (Binding.text x), AC.ref 0, vI (Binding.kind x), vI
 (Binding.number x)]) = AV.sv (SV.agg [vS (Binding.text x), AC.ref 0, vI (Binding.kind x), vI (Binding.number x)])) := by kernel_rfl
theorem c_toBinding (x : Binding) (h : wB x ≤ 1048576)  : P_c_toBinding x := by
  refine CallOK.ofRun wide (run_c_toBinding x) Try.call237 Try.func237 rfl rfl rfl ?_
  with_reducible repeat' (first | apply And.intro | exact flatI | exact flatS | exact rowLens | (intro; skip) | apply obsN | apply obsC | apply obA | apply obM | apply obB | apply svA | apply tupA | apply lcA | apply lcS | apply svC | apply liC | apply lbC | apply lsC | apply vIc | apply vBc | apply vSc | apply vLc | apply mapC | apply c_toIntS)
  all_goals (try simp only [std] at *)
  all_goals (try (first | with_reducible rfl | omega | assumption | exact rowGet (by first | omega | (simp only [std]; omega) | grind) | exact getC (by first | omega | (simp only [std]; omega) | grind) rfl | exact fill_step (by first | omega | (simp only [std]; omega) | grind) (by first | rfl | exact (Row.eq _).trans rfl) | exact fill_init (by first | rfl | exact (Row.eq _).trans rfl) | grind [wB_eq, wS, snocI, snocS, rowSnoc]))

abbrev P_c_toBindingS (L : List Binding) : Prop := CallOK Try.prog 148 [] [ll (L.map bindingC)] [.arr true 4 (L.map bindingC)] (.sv (.one (.ref 0)))
def Tc_toBindingSLa (L : List Binding) (x0 : SV) (x1 : Ob) : St := St.mk (regsOf 23 [(0, AV.sv (ll (List.map bindingC L))), (3, AV.sv (SV.one (AC.ref 0))), (4, AV.sv x0)]) [x1] 0 
def Lc_toBindingSLa (L : List Binding) (k : Nat) : St := Tc_toBindingSLa L (li (↑k : Int)) (Ob.arr true 4 (List.map bindingC (fillTo L k))) 
def Ic_toBindingSLa (L : List Binding) : Nat → St → Prop := Head (Lc_toBindingSLa L) (fun k => k ≤ List.length L ∧ List.length L ≤ 9223372036854775807) fun k => List.length L - k 
def W0c_toBindingSLa (L : List Binding) (x0 : Ob) : St := St.mk (regsOf 23 [(3, AV.sv (SV.one (AC.ref 0)))]) [x0] 0 
def Yc_toBindingSLa (L : List Binding) : List (Prop × AEx × St) := [(True, AEx.exit 0, W0c_toBindingSLa L (Ob.arr true 4 (List.map bindingC L)))]
theorem Hc_toBindingSLa {L : List Binding} {k : Nat} {m : Nat} (h : (fun k => k ≤ List.length L ∧ List.length L ≤ 9223372036854775807) k) (hm : (fun k => List.length L - k) k = m)
 : Ic_toBindingSLa L m (Lc_toBindingSLa L k) := hm ▸ Head.mk h
theorem Ec_toBindingSLa {L : List Binding} {k : Nat} {x0 : SV} {x1 : Ob} (h0 : x0 = (li (↑k : Int))) (h1 : x1 = (Ob.arr true 4 (List.map bindingC (fillTo L k)))) : Tc_toBindingSLa
 L x0 x1 = Lc_toBindingSLa L k := by (rw [h0, h1]; rfl)
theorem EW0c_toBindingSLa {L : List Binding} {x0 y0 : Ob} (h0 : x0 = y0) : W0c_toBindingSLa L x0 = W0c_toBindingSLa L y0 := by rw [h0]
theorem run_c_toBindingSLa (L : List Binding) (k : Nat) : aexec Try.prog (loopAt Try.f148 0) (Lc_toBindingSLa L k) [Orc.br [Orc.cells (bindingF (List.getD L k default)), Orc.call
 [Mode.rd] (bindingO (List.getD L k default)) (AV.sv (bindingR (List.getD L k default) 0)), Orc.cells (bindingF (List.getD (fillTo L k) (Int.toNat (↑k : Int)) default)), Orc.ghost
 (Ghost.sel [0] [0, 3, 4]), Orc.goto (List.length L - (k + 1)) (Lc_toBindingSLa L (k + 1))] [Orc.ghost (Ghost.sel [0] [3]), Orc.out 0]] (loopK (Ic_toBindingSLa L) (Yc_toBindingSLa
 L) (List.length L - k)) = (List.length (List.map bindingC L) ≤ 9223372036854775807 → (decide ((↑k : Int) < (↑(List.length (List.map bindingC L)) : Int)) = true → (0 ≤ (↑k : Int) ∧
 (List.map bindingC L)[Int.toNat (↑k : Int)]? = some (bindingF (List.getD L k default))) ∧ P_c_toBinding (List.getD L k default) ∧ (0 ≤ (↑k : Int) ∧ Int.toNat (↑k : Int) <
 List.length (List.map bindingC (fillTo L k))) ∧ (List.map bindingC (fillTo L k))[Int.toNat (↑k : Int)]? = some (bindingF (List.getD (fillTo L k) (Int.toNat (↑k : Int)) default)) ∧
 rng IntKind.i64 ((↑k : Int) + 1) ∧ List.length L - (k + 1) < List.length L - k ∧ Tc_toBindingSLa L (li ((↑k : Int) + 1)) (Ob.arr true 4 (List.set (List.map bindingC (fillTo L k))
 (Int.toNat (↑k : Int)) (bindingF (List.getD L k default)))) = Lc_toBindingSLa L (k + 1) ∧ Ic_toBindingSLa L (List.length L - (k + 1)) (Lc_toBindingSLa L (k + 1))) ∧ (decide ((↑k :
 Int) < (↑(List.length (List.map bindingC L)) : Int)) = false → True ∧ W0c_toBindingSLa L (Ob.arr true 4 (List.map bindingC (fillTo L k))) = W0c_toBindingSLa L (Ob.arr true 4
 (List.map bindingC L)))) := by kernel_rfl
theorem Sc_toBindingSLa (L : List Binding) (h : List.length L + sumBy wB L ≤ 1048576)  : LoopSem Try.prog (loopAt Try.f148 0) (Ic_toBindingSLa L) (Yc_toBindingSLa L) := by
  refine LoopSem.ofHead wide fun k h => ⟨_, _, run_c_toBindingSLa L k, ?_⟩
  with_reducible repeat' (first | apply And.intro | exact flatI | exact flatS | exact rowLens | (intro; skip) | apply obsN | apply obsC | apply obA | apply obM | apply obB | apply svA | apply tupA | apply lcA | apply lcS | apply svC | apply liC | apply lbC | apply lsC | apply vIc | apply vBc | apply vSc | apply vLc | apply mapC | apply Hc_toBindingSLa | apply Ec_toBindingSLa | apply EW0c_toBindingSLa | apply c_toBinding)
  all_goals (try simp only [std] at *)
  all_goals (try (first | with_reducible rfl | omega | assumption | exact rowGet (by first | omega | (simp only [std]; omega) | grind) | exact getC (by first | omega | (simp only [std]; omega) | grind) rfl | exact fill_step (by first | omega | (simp only [std]; omega) | grind) (by first | rfl | exact (Row.eq _).trans rfl) | exact fill_init (by first | rfl | exact (Row.eq _).trans rfl) | grind [fillTo_all, getD_mem', sumBy_mem, snocI, snocS, rowSnoc]))
theorem run_c_toBindingS (L : List Binding) : aexec Try.prog (Option.getD (Func.body Try.f148) Code.skip) (entry [] [ll (List.map bindingC L)] 23) [Orc.ghost (Ghost.sel [0] [0, 3,
 4]), Orc.loop (List.length L - 0) (Lc_toBindingSLa L 0) (Ic_toBindingSLa L) [(True, AEx.exit 0, W0c_toBindingSLa L (Ob.arr true 4 (List.map bindingC L)), [Orc.fin [0]])]] (finK
 Try.prog [ResultVar.tmp 2] [Ob.arr true 4 (List.map bindingC L)] (AV.sv (SV.one (AC.ref 0)))) = (List.length (List.map bindingC L) ≤ 9223372036854775807 → (0 ≤ (↑(List.length
 (List.map bindingC L)) : Int) ∧ 56 * Int.toNat (↑(List.length (List.map bindingC L)) : Int) ≤ 281474976710656) ∧ Tc_toBindingSLa L (li 0) (Ob.arr true 4 (List.replicate (Int.toNat
 (↑(List.length (List.map bindingC L)) : Int)) [cS (ByteArray.mk #[]), Cell.list [], cI 0, cI 0])) = Lc_toBindingSLa L 0 ∧ Ic_toBindingSLa L (List.length L - 0) (Lc_toBindingSLa L
 0) ∧ LoopSem Try.prog (loopAt Try.f148 0) (Ic_toBindingSLa L) (Yc_toBindingSLa L) ∧ (True → ObsEq [Ob.arr true 4 (List.map bindingC L)] [Ob.arr true 4 (List.map bindingC L)] ∧
 AV.sv (SV.one (AC.ref 0)) = AV.sv (SV.one (AC.ref 0))) ∧ True) := by kernel_rfl
theorem c_toBindingS (L : List Binding) (h : L.length + sumBy wB L ≤ 1048576)  : P_c_toBindingS L := by
  refine CallOK.ofRun wide (run_c_toBindingS L) Try.call148 Try.func148 rfl rfl rfl ?_
  with_reducible repeat' (first | apply And.intro | exact flatI | exact flatS | exact rowLens | (intro; skip) | apply obsN | apply obsC | apply obA | apply obM | apply obB | apply svA | apply tupA | apply lcA | apply lcS | apply svC | apply liC | apply lbC | apply lsC | apply vIc | apply vBc | apply vSc | apply vLc | apply mapC | apply Hc_toBindingSLa | apply Ec_toBindingSLa | apply Sc_toBindingSLa | apply EW0c_toBindingSLa | apply c_toBinding)
  all_goals (try simp only [std] at *)
  all_goals (try (first | with_reducible rfl | omega | assumption | exact rowGet (by first | omega | (simp only [std]; omega) | grind) | exact getC (by first | omega | (simp only [std]; omega) | grind) rfl | exact fill_step (by first | omega | (simp only [std]; omega) | grind) (by first | rfl | exact (Row.eq _).trans rfl) | exact fill_init (by first | rfl | exact (Row.eq _).trans rfl) | grind [snocI, snocS, rowSnoc]))

abbrev P_c_toRules (x : Rules) : Prop := CallOK Try.prog 99 [] [rulesA x] (rulesO x) (.sv (rulesR x 0))
theorem run_c_toRules (x : Rules) : aexec Try.prog (Option.getD (Func.body Try.f99) Code.skip) (entry [] [rulesA x] 17) [Orc.call [Mode.rd] [Ob.arr true 5 (List.map syntaxC
 (Rules.literals x))] (AV.sv (SV.one (AC.ref 0))), Orc.call [Mode.rd] [Ob.arr true 5 (List.map syntaxC (Rules.patterns x))] (AV.sv (SV.one (AC.ref 0))), Orc.call [Mode.rd] [Ob.arr
 true 5 (List.map syntaxC (Rules.templates x))] (AV.sv (SV.one (AC.ref 0))), Orc.fin [3, 4, 5]] (finK Try.prog [ResultVar.cell 2 143] (rulesO x) (AV.sv (rulesR x 0))) =
 (P_c_toSyntaxS (Rules.literals x) ∧ P_c_toSyntaxS (Rules.patterns x) ∧ P_c_toSyntaxS (Rules.templates x) ∧ ObsEq [Ob.arr true 5 (List.map syntaxC (Rules.literals x)), Ob.arr true
 5 (List.map syntaxC (Rules.patterns x)), Ob.arr true 5 (List.map syntaxC (Rules.templates x))] [Ob.arr true 5 (List.map syntaxC (Rules.literals x)), Ob.arr true 5 (List.map
 syntaxC (Rules.patterns x)), Ob.arr true 5 (List.map syntaxC (Rules.templates x))] ∧ AV.sv (SV.agg [AC.ref 0, AC.ref 1, AC.ref 2]) = AV.sv (SV.agg [AC.ref 0, AC.ref 1, AC.ref 2]))
 := by kernel_rfl
theorem c_toRules (x : Rules) (h : wR x ≤ 1048576)  : P_c_toRules x := by
  refine CallOK.ofRun wide (run_c_toRules x) Try.call99 Try.func99 rfl rfl rfl ?_
  with_reducible repeat' (first | apply And.intro | exact flatI | exact flatS | exact rowLens | (intro; skip) | apply obsN | apply obsC | apply obA | apply obM | apply obB | apply svA | apply tupA | apply lcA | apply lcS | apply svC | apply liC | apply lbC | apply lsC | apply vIc | apply vBc | apply vSc | apply vLc | apply mapC | apply c_toSyntaxS | apply c_toSyntax)
  all_goals (try simp only [std] at *)
  all_goals (try (first | with_reducible rfl | omega | assumption | exact rowGet (by first | omega | (simp only [std]; omega) | grind) | exact getC (by first | omega | (simp only [std]; omega) | grind) rfl | exact fill_step (by first | omega | (simp only [std]; omega) | grind) (by first | rfl | exact (Row.eq _).trans rfl) | exact fill_init (by first | rfl | exact (Row.eq _).trans rfl) | grind [wR_eq, wS, snocI, snocS, rowSnoc]))

abbrev P_c_toRulesS (L : List Rules) : Prop := CallOK Try.prog 149 [] [ll (L.map rulesC)] [.arr true 3 (L.map rulesC)] (.sv (.one (.ref 0)))
def Tc_toRulesSLa (L : List Rules) (x0 : SV) (x1 : Ob) : St := St.mk (regsOf 23 [(0, AV.sv (ll (List.map rulesC L))), (3, AV.sv (SV.one (AC.ref 0))), (4, AV.sv x0)]) [x1] 0 
def Lc_toRulesSLa (L : List Rules) (k : Nat) : St := Tc_toRulesSLa L (li (↑k : Int)) (Ob.arr true 3 (List.map rulesC (fillTo L k))) 
def Ic_toRulesSLa (L : List Rules) : Nat → St → Prop := Head (Lc_toRulesSLa L) (fun k => k ≤ List.length L ∧ List.length L ≤ 9223372036854775807) fun k => List.length L - k 
def W0c_toRulesSLa (L : List Rules) (x0 : Ob) : St := St.mk (regsOf 23 [(3, AV.sv (SV.one (AC.ref 0)))]) [x0] 0 
def Yc_toRulesSLa (L : List Rules) : List (Prop × AEx × St) := [(True, AEx.exit 0, W0c_toRulesSLa L (Ob.arr true 3 (List.map rulesC L)))]
theorem Hc_toRulesSLa {L : List Rules} {k : Nat} {m : Nat} (h : (fun k => k ≤ List.length L ∧ List.length L ≤ 9223372036854775807) k) (hm : (fun k => List.length L - k) k = m) :
 Ic_toRulesSLa L m (Lc_toRulesSLa L k) := hm ▸ Head.mk h
theorem Ec_toRulesSLa {L : List Rules} {k : Nat} {x0 : SV} {x1 : Ob} (h0 : x0 = (li (↑k : Int))) (h1 : x1 = (Ob.arr true 3 (List.map rulesC (fillTo L k)))) : Tc_toRulesSLa L x0 x1
 = Lc_toRulesSLa L k := by (rw [h0, h1]; rfl)
theorem EW0c_toRulesSLa {L : List Rules} {x0 y0 : Ob} (h0 : x0 = y0) : W0c_toRulesSLa L x0 = W0c_toRulesSLa L y0 := by rw [h0]
theorem run_c_toRulesSLa (L : List Rules) (k : Nat) : aexec Try.prog (loopAt Try.f149 0) (Lc_toRulesSLa L k) [Orc.br [Orc.cells (rulesF (List.getD L k default)), Orc.call [Mode.rd]
 (rulesO (List.getD L k default)) (AV.sv (rulesR (List.getD L k default) 0)), Orc.cells (rulesF (List.getD (fillTo L k) (Int.toNat (↑k : Int)) default)), Orc.ghost (Ghost.sel [0]
 [0, 3, 4]), Orc.goto (List.length L - (k + 1)) (Lc_toRulesSLa L (k + 1))] [Orc.ghost (Ghost.sel [0] [3]), Orc.out 0]] (loopK (Ic_toRulesSLa L) (Yc_toRulesSLa L) (List.length L -
 k)) = (List.length (List.map rulesC L) ≤ 9223372036854775807 → (decide ((↑k : Int) < (↑(List.length (List.map rulesC L)) : Int)) = true → (0 ≤ (↑k : Int) ∧ (List.map rulesC
 L)[Int.toNat (↑k : Int)]? = some (rulesF (List.getD L k default))) ∧ P_c_toRules (List.getD L k default) ∧ (0 ≤ (↑k : Int) ∧ Int.toNat (↑k : Int) < List.length (List.map rulesC
 (fillTo L k))) ∧ (List.map rulesC (fillTo L k))[Int.toNat (↑k : Int)]? = some (rulesF (List.getD (fillTo L k) (Int.toNat (↑k : Int)) default)) ∧ rng IntKind.i64 ((↑k : Int) + 1) ∧
 List.length L - (k + 1) < List.length L - k ∧ Tc_toRulesSLa L (li ((↑k : Int) + 1)) (Ob.arr true 3 (List.set (List.map rulesC (fillTo L k)) (Int.toNat (↑k : Int)) (rulesF
 (List.getD L k default)))) = Lc_toRulesSLa L (k + 1) ∧ Ic_toRulesSLa L (List.length L - (k + 1)) (Lc_toRulesSLa L (k + 1))) ∧ (decide ((↑k : Int) < (↑(List.length (List.map rulesC
 L)) : Int)) = false → True ∧ W0c_toRulesSLa L (Ob.arr true 3 (List.map rulesC (fillTo L k))) = W0c_toRulesSLa L (Ob.arr true 3 (List.map rulesC L)))) := by kernel_rfl
theorem Sc_toRulesSLa (L : List Rules) (h : List.length L + sumBy wR L ≤ 1048576)  : LoopSem Try.prog (loopAt Try.f149 0) (Ic_toRulesSLa L) (Yc_toRulesSLa L) := by
  refine LoopSem.ofHead wide fun k h => ⟨_, _, run_c_toRulesSLa L k, ?_⟩
  with_reducible repeat' (first | apply And.intro | exact flatI | exact flatS | exact rowLens | (intro; skip) | apply obsN | apply obsC | apply obA | apply obM | apply obB | apply svA | apply tupA | apply lcA | apply lcS | apply svC | apply liC | apply lbC | apply lsC | apply vIc | apply vBc | apply vSc | apply vLc | apply mapC | apply Hc_toRulesSLa | apply Ec_toRulesSLa | apply EW0c_toRulesSLa | apply c_toRules)
  all_goals (try simp only [std] at *)
  all_goals (try (first | with_reducible rfl | omega | assumption | exact rowGet (by first | omega | (simp only [std]; omega) | grind) | exact getC (by first | omega | (simp only [std]; omega) | grind) rfl | exact fill_step (by first | omega | (simp only [std]; omega) | grind) (by first | rfl | exact (Row.eq _).trans rfl) | exact fill_init (by first | rfl | exact (Row.eq _).trans rfl) | grind [fillTo_all, getD_mem', sumBy_mem, snocI, snocS, rowSnoc]))
theorem run_c_toRulesS (L : List Rules) : aexec Try.prog (Option.getD (Func.body Try.f149) Code.skip) (entry [] [ll (List.map rulesC L)] 23) [Orc.ghost (Ghost.sel [0] [0, 3, 4]),
 Orc.loop (List.length L - 0) (Lc_toRulesSLa L 0) (Ic_toRulesSLa L) [(True, AEx.exit 0, W0c_toRulesSLa L (Ob.arr true 3 (List.map rulesC L)), [Orc.fin [0]])]] (finK Try.prog
 [ResultVar.tmp 2] [Ob.arr true 3 (List.map rulesC L)] (AV.sv (SV.one (AC.ref 0)))) = (List.length (List.map rulesC L) ≤ 9223372036854775807 → (0 ≤ (↑(List.length (List.map rulesC
 L)) : Int) ∧ 72 * Int.toNat (↑(List.length (List.map rulesC L)) : Int) ≤ 281474976710656) ∧ Tc_toRulesSLa L (li 0) (Ob.arr true 3 (List.replicate (Int.toNat (↑(List.length
 (List.map rulesC L)) : Int)) [Cell.list [], Cell.list [], Cell.list []])) = Lc_toRulesSLa L 0 ∧ Ic_toRulesSLa L (List.length L - 0) (Lc_toRulesSLa L 0) ∧ LoopSem Try.prog (loopAt
 Try.f149 0) (Ic_toRulesSLa L) (Yc_toRulesSLa L) ∧ (True → ObsEq [Ob.arr true 3 (List.map rulesC L)] [Ob.arr true 3 (List.map rulesC L)] ∧ AV.sv (SV.one (AC.ref 0)) = AV.sv (SV.one
 (AC.ref 0))) ∧ True) := by kernel_rfl
theorem c_toRulesS (L : List Rules) (h : L.length + sumBy wR L ≤ 1048576)  : P_c_toRulesS L := by
  refine CallOK.ofRun wide (run_c_toRulesS L) Try.call149 Try.func149 rfl rfl rfl ?_
  with_reducible repeat' (first | apply And.intro | exact flatI | exact flatS | exact rowLens | (intro; skip) | apply obsN | apply obsC | apply obA | apply obM | apply obB | apply svA | apply tupA | apply lcA | apply lcS | apply svC | apply liC | apply lbC | apply lsC | apply vIc | apply vBc | apply vSc | apply vLc | apply mapC | apply Hc_toRulesSLa | apply Ec_toRulesSLa | apply Sc_toRulesSLa | apply EW0c_toRulesSLa | apply c_toRules)
  all_goals (try simp only [std] at *)
  all_goals (try (first | with_reducible rfl | omega | assumption | exact rowGet (by first | omega | (simp only [std]; omega) | grind) | exact getC (by first | omega | (simp only [std]; omega) | grind) rfl | exact fill_step (by first | omega | (simp only [std]; omega) | grind) (by first | rfl | exact (Row.eq _).trans rfl) | exact fill_init (by first | rfl | exact (Row.eq _).trans rfl) | grind [snocI, snocS, rowSnoc]))

abbrev P_c_toCaptureS (L : List Capture) : Prop := CallOK Try.prog 65 [] [ll (L.map captureC)] [.arr true 12 (L.map captureC)] (.sv (.one (.ref 0)))
abbrev P_c_toCapture (x : Capture) : Prop := CallOK Try.prog 164 [] [captureA x] (captureO x) (.sv (captureR x 0))
def Tc_toCaptureSLa (L : List Capture) (x0 : SV) (x1 : Ob) : St := St.mk (regsOf 23 [(0, AV.sv (ll (List.map captureC L))), (3, AV.sv (SV.one (AC.ref 0))), (4, AV.sv x0)]) [x1] 0 
def Lc_toCaptureSLa (L : List Capture) (k : Nat) : St := Tc_toCaptureSLa L (li (↑k : Int)) (Ob.arr true 12 (List.map captureC (fillTo L k))) 
def Ic_toCaptureSLa (L : List Capture) : Nat → St → Prop := Head (Lc_toCaptureSLa L) (fun k => k ≤ List.length L ∧ List.length L ≤ 9223372036854775807) fun k => List.length L - k 
def W0c_toCaptureSLa (L : List Capture) (x0 : Ob) : St := St.mk (regsOf 23 [(3, AV.sv (SV.one (AC.ref 0)))]) [x0] 0 
def Yc_toCaptureSLa (L : List Capture) : List (Prop × AEx × St) := [(True, AEx.exit 0, W0c_toCaptureSLa L (Ob.arr true 12 (List.map captureC L)))]
theorem Hc_toCaptureSLa {L : List Capture} {k : Nat} {m : Nat} (h : (fun k => k ≤ List.length L ∧ List.length L ≤ 9223372036854775807) k) (hm : (fun k => List.length L - k) k = m)
 : Ic_toCaptureSLa L m (Lc_toCaptureSLa L k) := hm ▸ Head.mk h
theorem Ec_toCaptureSLa {L : List Capture} {k : Nat} {x0 : SV} {x1 : Ob} (h0 : x0 = (li (↑k : Int))) (h1 : x1 = (Ob.arr true 12 (List.map captureC (fillTo L k)))) : Tc_toCaptureSLa
 L x0 x1 = Lc_toCaptureSLa L k := by (rw [h0, h1]; rfl)
theorem EW0c_toCaptureSLa {L : List Capture} {x0 y0 : Ob} (h0 : x0 = y0) : W0c_toCaptureSLa L x0 = W0c_toCaptureSLa L y0 := by rw [h0]
theorem run_c_toCaptureSLa (L : List Capture) (k : Nat) : aexec Try.prog (loopAt Try.f65 0) (Lc_toCaptureSLa L k) [Orc.br [Orc.cells (captureF (List.getD L k default)), Orc.call
 [Mode.rd] (captureO (List.getD L k default)) (AV.sv (captureR (List.getD L k default) 0)), Orc.cells (captureF (List.getD (fillTo L k) (Int.toNat (↑k : Int)) default)), Orc.ghost
 (Ghost.sel [0] [0, 3, 4]), Orc.goto (List.length L - (k + 1)) (Lc_toCaptureSLa L (k + 1))] [Orc.ghost (Ghost.sel [0] [3]), Orc.out 0]] (loopK (Ic_toCaptureSLa L) (Yc_toCaptureSLa
 L) (List.length L - k)) = (List.length (List.map captureC L) ≤ 9223372036854775807 → (decide ((↑k : Int) < (↑(List.length (List.map captureC L)) : Int)) = true → (0 ≤ (↑k : Int) ∧
 (List.map captureC L)[Int.toNat (↑k : Int)]? = some (captureF (List.getD L k default))) ∧ P_c_toCapture (List.getD L k default) ∧ (0 ≤ (↑k : Int) ∧ Int.toNat (↑k : Int) <
 List.length (List.map captureC (fillTo L k))) ∧ (List.map captureC (fillTo L k))[Int.toNat (↑k : Int)]? = some (captureF (List.getD (fillTo L k) (Int.toNat (↑k : Int)) default)) ∧
 rng IntKind.i64 ((↑k : Int) + 1) ∧ List.length L - (k + 1) < List.length L - k ∧ Tc_toCaptureSLa L (li ((↑k : Int) + 1)) (Ob.arr true 12 (List.set (List.map captureC (fillTo L k))
 (Int.toNat (↑k : Int)) (captureF (List.getD L k default)))) = Lc_toCaptureSLa L (k + 1) ∧ Ic_toCaptureSLa L (List.length L - (k + 1)) (Lc_toCaptureSLa L (k + 1))) ∧ (decide ((↑k :
 Int) < (↑(List.length (List.map captureC L)) : Int)) = false → True ∧ W0c_toCaptureSLa L (Ob.arr true 12 (List.map captureC (fillTo L k))) = W0c_toCaptureSLa L (Ob.arr true 12
 (List.map captureC L)))) := by kernel_rfl
theorem Sc_toCaptureSLa (L : List Capture) (h : List.length L + sumBy wP L ≤ 1048576) (ih : ∀ (x : Capture), x ∈ L → wP x ≤ 1048576 → P_c_toCapture x)  : LoopSem Try.prog (loopAt
 Try.f65 0) (Ic_toCaptureSLa L) (Yc_toCaptureSLa L) := by
  refine LoopSem.ofHead wide fun k h => ⟨_, _, run_c_toCaptureSLa L k, ?_⟩
  with_reducible repeat' (first | apply And.intro | exact flatI | exact flatS | exact rowLens | (intro; skip) | apply obsN | apply obsC | apply obA | apply obM | apply obB | apply svA | apply tupA | apply lcA | apply lcS | apply svC | apply liC | apply lbC | apply lsC | apply vIc | apply vBc | apply vSc | apply vLc | apply mapC | apply Hc_toCaptureSLa | apply Ec_toCaptureSLa | apply EW0c_toCaptureSLa | apply ih)
  all_goals (try simp only [std] at *)
  all_goals (try (first | with_reducible rfl | omega | assumption | exact rowGet (by first | omega | (simp only [std]; omega) | grind) | exact getC (by first | omega | (simp only [std]; omega) | grind) rfl | exact fill_step (by first | omega | (simp only [std]; omega) | grind) (by first | rfl | exact (Row.eq _).trans rfl) | exact fill_init (by first | rfl | exact (Row.eq _).trans rfl) | grind [fillTo_all, getD_mem', sumBy_mem, snocI, snocS, rowSnoc]))
theorem run_c_toCaptureS (L : List Capture) : aexec Try.prog (Option.getD (Func.body Try.f65) Code.skip) (entry [] [ll (List.map captureC L)] 23) [Orc.ghost (Ghost.sel [0] [0, 3,
 4]), Orc.loop (List.length L - 0) (Lc_toCaptureSLa L 0) (Ic_toCaptureSLa L) [(True, AEx.exit 0, W0c_toCaptureSLa L (Ob.arr true 12 (List.map captureC L)), [Orc.fin [0]])]] (finK
 Try.prog [ResultVar.tmp 2] [Ob.arr true 12 (List.map captureC L)] (AV.sv (SV.one (AC.ref 0)))) = (List.length (List.map captureC L) ≤ 9223372036854775807 → (0 ≤ (↑(List.length
 (List.map captureC L)) : Int) ∧ 192 * Int.toNat (↑(List.length (List.map captureC L)) : Int) ≤ 281474976710656) ∧ Tc_toCaptureSLa L (li 0) (Ob.arr true 12 (List.replicate
 (Int.toNat (↑(List.length (List.map captureC L)) : Int)) [cI 0, cI 0, cS (ByteArray.mk #[]), Cell.list [], Cell.list [], cI 0, cI 0, cI 0, cS (ByteArray.mk #[]), Cell.list [],
 Cell.list [], Cell.list []])) = Lc_toCaptureSLa L 0 ∧ Ic_toCaptureSLa L (List.length L - 0) (Lc_toCaptureSLa L 0) ∧ LoopSem Try.prog (loopAt Try.f65 0) (Ic_toCaptureSLa L)
 (Yc_toCaptureSLa L) ∧ (True → ObsEq [Ob.arr true 12 (List.map captureC L)] [Ob.arr true 12 (List.map captureC L)] ∧ AV.sv (SV.one (AC.ref 0)) = AV.sv (SV.one (AC.ref 0))) ∧ True)
 := by kernel_rfl
theorem c_toCaptureS (L : List Capture) (h : L.length + sumBy wP L ≤ 1048576) (ih : ∀ x ∈ L, ∀ (h : wP x ≤ 1048576), P_c_toCapture x)  : P_c_toCaptureS L := by
  refine CallOK.ofRun wide (run_c_toCaptureS L) Try.call65 Try.func65 rfl rfl rfl ?_
  with_reducible repeat' (first | apply And.intro | exact flatI | exact flatS | exact rowLens | (intro; skip) | apply obsN | apply obsC | apply obA | apply obM | apply obB | apply svA | apply tupA | apply lcA | apply lcS | apply svC | apply liC | apply lbC | apply lsC | apply vIc | apply vBc | apply vSc | apply vLc | apply mapC | apply Hc_toCaptureSLa | apply Ec_toCaptureSLa | apply Sc_toCaptureSLa | apply EW0c_toCaptureSLa)
  all_goals (try simp only [std] at *)
  all_goals (try (first | with_reducible rfl | omega | assumption | exact rowGet (by first | omega | (simp only [std]; omega) | grind) | exact getC (by first | omega | (simp only [std]; omega) | grind) rfl | exact fill_step (by first | omega | (simp only [std]; omega) | grind) (by first | rfl | exact (Row.eq _).trans rfl) | exact fill_init (by first | rfl | exact (Row.eq _).trans rfl) | grind [snocI, snocS, rowSnoc]))

theorem run_c_toCapture_s (x : Capture) : aexec Try.prog (Option.getD (Func.body Try.f164) Code.skip) (entry [] [captureA x] 20) [Orc.call [Mode.rd] (syntaxO (Capture.name x))
 (AV.sv (syntaxR (Capture.name x) 0)), Orc.call [Mode.rd] (syntaxO (Capture.form x)) (AV.sv (syntaxR (Capture.form x) 0)), Orc.call [Mode.rd] [Ob.arr true 12 (List.map captureC
 (Capture.each x))] (AV.sv (SV.one (AC.ref 0))), Orc.fin [3, 4, 5, 6, 7]] (finK Try.prog [ResultVar.cell 2 198] (captureO x) (AV.sv (captureR x 0))) = (P_c_toSyntax (Capture.name
 x) ∧ P_c_toSyntax (Capture.form x) ∧ P_c_toCaptureS (Capture.each x) ∧ ObsEq [Ob.arr true 1 (List.map intC (Syntax.scopes (Capture.name x))), Ob.arr true 5 (List.map syntaxC
 (Syntax.items (Capture.name x))), Ob.arr true 1 (List.map intC (Syntax.scopes (Capture.form x))), Ob.arr true 5 (List.map syntaxC (Syntax.items (Capture.form x))), Ob.arr true 12
 (List.map captureC (Capture.each x))] [Ob.arr true 1 (List.map intC (Syntax.scopes (Capture.name x))), Ob.arr true 5 (List.map syntaxC (Syntax.items (Capture.name x))), Ob.arr
 true 1 (List.map intC (Syntax.scopes (Capture.form x))), Ob.arr true 5 (List.map syntaxC (Syntax.items (Capture.form x))), Ob.arr true 12 (List.map captureC (Capture.each x))] ∧
 AV.sv (SV.agg [vI (Syntax.kind (Capture.name x)), vI (Syntax.number (Capture.name x)), vS (Syntax.text (Capture.name x)), AC.ref 0, AC.ref 1, vI (Capture.depth x), vI (Syntax.kind
 (Capture.form x)), vI (Syntax.number (Capture.form x)), vS (Syntax.text (Capture.form x)), AC.ref 2, AC.ref 3, AC.ref 4]) = AV.sv (SV.agg [vI (Syntax.kind (Capture.name x)), vI
 (Syntax.number (Capture.name x)), vS (Syntax.text (Capture.name x)), AC.ref 0, AC.ref 1, vI (Capture.depth x), vI (Syntax.kind (Capture.form x)), vI (Syntax.number (Capture.form
 x)), vS (Syntax.text (Capture.form x)), AC.ref 2, AC.ref 3, AC.ref 4])) := by kernel_rfl
theorem c_toCapture_s (x : Capture) (h : wP x ≤ 1048576) (ih : ∀ z ∈ x.each, ∀ (h : wP z ≤ 1048576), P_c_toCapture z)  : P_c_toCapture x := by
  refine CallOK.ofRun wide (run_c_toCapture_s x) Try.call164 Try.func164 rfl rfl rfl ?_
  with_reducible repeat' (first | apply And.intro | exact flatI | exact flatS | exact rowLens | (intro; skip) | apply obsN | apply obsC | apply obA | apply obM | apply obB | apply svA | apply tupA | apply lcA | apply lcS | apply svC | apply liC | apply lbC | apply lsC | apply vIc | apply vBc | apply vSc | apply vLc | apply mapC | apply c_toSyntax | apply c_toCaptureS | apply ih)
  all_goals (try simp only [std] at *)
  all_goals (try (first | with_reducible rfl | omega | assumption | exact rowGet (by first | omega | (simp only [std]; omega) | grind) | exact getC (by first | omega | (simp only [std]; omega) | grind) rfl | exact fill_step (by first | omega | (simp only [std]; omega) | grind) (by first | rfl | exact (Row.eq _).trans rfl) | exact fill_init (by first | rfl | exact (Row.eq _).trans rfl) | grind [wP_eq, wS, snocI, snocS, rowSnoc]))
theorem c_toCapture (x : Capture) : ∀ (h : wP x ≤ 1048576), P_c_toCapture x := Capture.ind (P := fun x => ∀ (h : wP x ≤ 1048576), P_c_toCapture x) (fun x ih h => c_toCapture_s x h ih) x

abbrev P_c_toExpander (x : Expander) : Prop := CallOK Try.prog 52 [] [expanderA x] (expanderO x) (.sv (expanderR x 0))
theorem run_c_toExpander (x : Expander) : aexec Try.prog (Option.getD (Func.body Try.f52) Code.skip) (entry [] [expanderA x] 22) [Orc.call [Mode.rd] [Ob.arr true 4 (List.map
 bindingC (Expander.bindings x))] (AV.sv (SV.one (AC.ref 0))), Orc.call [Mode.rd] [Ob.arr true 3 (List.map rulesC (Expander.macros x))] (AV.sv (SV.one (AC.ref 0))), Orc.fin [3, 4]]
 (finK Try.prog [ResultVar.cell 2 48] (expanderO x) (AV.sv (expanderR x 0))) = (P_c_toBindingS (Expander.bindings x) ∧ P_c_toRulesS (Expander.macros x) ∧ ObsEq [Ob.arr true 4
 (List.map bindingC (Expander.bindings x)), Ob.arr true 3 (List.map rulesC (Expander.macros x))] [Ob.arr true 4 (List.map bindingC (Expander.bindings x)), Ob.arr true 3 (List.map
 rulesC (Expander.macros x))] ∧ AV.sv (SV.agg [AC.ref 0, AC.ref 1, vI (Expander.scope x), vI (Expander.vari x), vI (Expander.steps x)]) = AV.sv (SV.agg [AC.ref 0, AC.ref 1, vI
 (Expander.scope x), vI (Expander.vari x), vI (Expander.steps x)])) := by kernel_rfl
theorem c_toExpander (x : Expander) (h : wX x ≤ 1048576)  : P_c_toExpander x := by
  refine CallOK.ofRun wide (run_c_toExpander x) Try.call52 Try.func52 rfl rfl rfl ?_
  with_reducible repeat' (first | apply And.intro | exact flatI | exact flatS | exact rowLens | (intro; skip) | apply obsN | apply obsC | apply obA | apply obM | apply obB | apply svA | apply tupA | apply lcA | apply lcS | apply svC | apply liC | apply lbC | apply lsC | apply vIc | apply vBc | apply vSc | apply vLc | apply mapC | apply c_toBindingS | apply c_toRulesS)
  all_goals (try simp only [std] at *)
  all_goals (try (first | with_reducible rfl | omega | assumption | exact rowGet (by first | omega | (simp only [std]; omega) | grind) | exact getC (by first | omega | (simp only [std]; omega) | grind) rfl | exact fill_step (by first | omega | (simp only [std]; omega) | grind) (by first | rfl | exact (Row.eq _).trans rfl) | exact fill_init (by first | rfl | exact (Row.eq _).trans rfl) | grind [wX_eq, wS, snocI, snocS, rowSnoc]))

abbrev P_c_toModule (x : Module) : Prop := CallOK Try.prog 47 [] [moduleA x] (moduleO x) (.sv (moduleR x 0))
theorem run_c_toModule (x : Module) : aexec Try.prog (Option.getD (Func.body Try.f47) Code.skip) (entry [] [moduleA x] 20) [Orc.call [Mode.rd] [Ob.arr true 1 (List.map strC
 (Module.imports x))] (AV.sv (SV.one (AC.ref 0))), Orc.call [Mode.rd] [Ob.arr true 1 (List.map strC (Module.exports x))] (AV.sv (SV.one (AC.ref 0))), Orc.call [Mode.rd] [Ob.arr
 true 4 (List.map datumC (Module.body x))] (AV.sv (SV.one (AC.ref 0))), Orc.fin [3, 4, 5]] (finK Try.prog [ResultVar.cell 2 66] (moduleO x) (AV.sv (moduleR x 0))) = (P_c_toStringS
 (Module.imports x) ∧ P_c_toStringS (Module.exports x) ∧ P_c_toDatumS (Module.body x) ∧ ObsEq [Ob.arr true 1 (List.map strC (Module.imports x)), Ob.arr true 1 (List.map strC
 (Module.exports x)), Ob.arr true 4 (List.map datumC (Module.body x))] [Ob.arr true 1 (List.map strC (Module.imports x)), Ob.arr true 1 (List.map strC (Module.exports x)), Ob.arr
 true 4 (List.map datumC (Module.body x))] ∧ AV.sv (SV.agg [vS (Module.name x), AC.ref 0, AC.ref 1, AC.ref 2]) = AV.sv (SV.agg [vS (Module.name x), AC.ref 0, AC.ref 1, AC.ref 2]))
 := by kernel_rfl
theorem c_toModule (x : Module) (h : wM x ≤ 1048576)  : P_c_toModule x := by
  refine CallOK.ofRun wide (run_c_toModule x) Try.call47 Try.func47 rfl rfl rfl ?_
  with_reducible repeat' (first | apply And.intro | exact flatI | exact flatS | exact rowLens | (intro; skip) | apply obsN | apply obsC | apply obA | apply obM | apply obB | apply svA | apply tupA | apply lcA | apply lcS | apply svC | apply liC | apply lbC | apply lsC | apply vIc | apply vBc | apply vSc | apply vLc | apply mapC | apply c_toStringS | apply c_toDatumS | apply c_toDatum)
  all_goals (try simp only [std] at *)
  all_goals (try (first | with_reducible rfl | omega | assumption | exact rowGet (by first | omega | (simp only [std]; omega) | grind) | exact getC (by first | omega | (simp only [std]; omega) | grind) rfl | exact fill_step (by first | omega | (simp only [std]; omega) | grind) (by first | rfl | exact (Row.eq _).trans rfl) | exact fill_init (by first | rfl | exact (Row.eq _).trans rfl) | grind [wM_eq, wS, snocI, snocS, rowSnoc]))

abbrev P_c_toExport (x : Export) : Prop := CallOK Try.prog 256 [] [exportA x] (exportO x) (.sv (exportR x 0))
theorem run_c_toExport (x : Export) : aexec Try.prog (Option.getD (Func.body Try.f256) Code.skip) (entry [] [exportA x] 17) [Orc.fin []] (finK Try.prog [ResultVar.cell 2 109]
 (exportO x) (AV.sv (exportR x 0))) = (ObsEq [] [] ∧ AV.sv (SV.agg (vals (exportF x))) = AV.sv (SV.agg (vals (exportF x)))) := by kernel_rfl
theorem c_toExport (x : Export) (h : wE x ≤ 1048576)  : P_c_toExport x := by
  refine CallOK.ofRun wide (run_c_toExport x) Try.call256 Try.func256 rfl rfl rfl ?_
  with_reducible repeat' (first | apply And.intro | exact flatI | exact flatS | exact rowLens | (intro; skip) | apply obsN | apply obsC | apply obA | apply obM | apply obB | apply svA | apply tupA | apply lcA | apply lcS | apply svC | apply liC | apply lbC | apply lsC | apply vIc | apply vBc | apply vSc | apply vLc | apply mapC)
  all_goals (try simp only [std] at *)
  all_goals (try (first | with_reducible rfl | omega | assumption | exact rowGet (by first | omega | (simp only [std]; omega) | grind) | exact getC (by first | omega | (simp only [std]; omega) | grind) rfl | exact fill_step (by first | omega | (simp only [std]; omega) | grind) (by first | rfl | exact (Row.eq _).trans rfl) | exact fill_init (by first | rfl | exact (Row.eq _).trans rfl) | grind [wE_eq, wS, snocI, snocS, rowSnoc]))

abbrev P_c_toExportS (L : List Export) : Prop := CallOK Try.prog 187 [] [ll (L.map exportC)] [.arr true 4 (L.map exportC)] (.sv (.one (.ref 0)))
def Tc_toExportSLa (L : List Export) (x0 : SV) (x1 : Ob) : St := St.mk (regsOf 23 [(0, AV.sv (ll (List.map exportC L))), (3, AV.sv (SV.one (AC.ref 0))), (4, AV.sv x0)]) [x1] 0 
def Lc_toExportSLa (L : List Export) (k : Nat) : St := Tc_toExportSLa L (li (↑k : Int)) (Ob.arr true 4 (List.map exportC (fillTo L k))) 
def Ic_toExportSLa (L : List Export) : Nat → St → Prop := Head (Lc_toExportSLa L) (fun k => k ≤ List.length L ∧ List.length L ≤ 9223372036854775807) fun k => List.length L - k 
def W0c_toExportSLa (L : List Export) (x0 : Ob) : St := St.mk (regsOf 23 [(3, AV.sv (SV.one (AC.ref 0)))]) [x0] 0 
def Yc_toExportSLa (L : List Export) : List (Prop × AEx × St) := [(True, AEx.exit 0, W0c_toExportSLa L (Ob.arr true 4 (List.map exportC L)))]
theorem Hc_toExportSLa {L : List Export} {k : Nat} {m : Nat} (h : (fun k => k ≤ List.length L ∧ List.length L ≤ 9223372036854775807) k) (hm : (fun k => List.length L - k) k = m) :
 Ic_toExportSLa L m (Lc_toExportSLa L k) := hm ▸ Head.mk h
theorem Ec_toExportSLa {L : List Export} {k : Nat} {x0 : SV} {x1 : Ob} (h0 : x0 = (li (↑k : Int))) (h1 : x1 = (Ob.arr true 4 (List.map exportC (fillTo L k)))) : Tc_toExportSLa L x0
 x1 = Lc_toExportSLa L k := by (rw [h0, h1]; rfl)
theorem EW0c_toExportSLa {L : List Export} {x0 y0 : Ob} (h0 : x0 = y0) : W0c_toExportSLa L x0 = W0c_toExportSLa L y0 := by rw [h0]
theorem run_c_toExportSLa (L : List Export) (k : Nat) : aexec Try.prog (loopAt Try.f187 0) (Lc_toExportSLa L k) [Orc.br [Orc.cells (exportF (List.getD L k default)), Orc.call
 [Mode.rd] (exportO (List.getD L k default)) (AV.sv (exportR (List.getD L k default) 0)), Orc.cells (exportF (List.getD (fillTo L k) (Int.toNat (↑k : Int)) default)), Orc.ghost
 (Ghost.sel [0] [0, 3, 4]), Orc.goto (List.length L - (k + 1)) (Lc_toExportSLa L (k + 1))] [Orc.ghost (Ghost.sel [0] [3]), Orc.out 0]] (loopK (Ic_toExportSLa L) (Yc_toExportSLa L)
 (List.length L - k)) = (List.length (List.map exportC L) ≤ 9223372036854775807 → (decide ((↑k : Int) < (↑(List.length (List.map exportC L)) : Int)) = true → (0 ≤ (↑k : Int) ∧
 (List.map exportC L)[Int.toNat (↑k : Int)]? = some (exportF (List.getD L k default))) ∧ P_c_toExport (List.getD L k default) ∧ (0 ≤ (↑k : Int) ∧ Int.toNat (↑k : Int) < List.length
 (List.map exportC (fillTo L k))) ∧ (List.map exportC (fillTo L k))[Int.toNat (↑k : Int)]? = some (exportF (List.getD (fillTo L k) (Int.toNat (↑k : Int)) default)) ∧ rng
 IntKind.i64 ((↑k : Int) + 1) ∧ List.length L - (k + 1) < List.length L - k ∧ Tc_toExportSLa L (li ((↑k : Int) + 1)) (Ob.arr true 4 (List.set (List.map exportC (fillTo L k))
 (Int.toNat (↑k : Int)) (exportF (List.getD L k default)))) = Lc_toExportSLa L (k + 1) ∧ Ic_toExportSLa L (List.length L - (k + 1)) (Lc_toExportSLa L (k + 1))) ∧ (decide ((↑k :
 Int) < (↑(List.length (List.map exportC L)) : Int)) = false → True ∧ W0c_toExportSLa L (Ob.arr true 4 (List.map exportC (fillTo L k))) = W0c_toExportSLa L (Ob.arr true 4 (List.map
 exportC L)))) := by kernel_rfl
theorem Sc_toExportSLa (L : List Export) (h : List.length L + sumBy wE L ≤ 1048576)  : LoopSem Try.prog (loopAt Try.f187 0) (Ic_toExportSLa L) (Yc_toExportSLa L) := by
  refine LoopSem.ofHead wide fun k h => ⟨_, _, run_c_toExportSLa L k, ?_⟩
  with_reducible repeat' (first | apply And.intro | exact flatI | exact flatS | exact rowLens | (intro; skip) | apply obsN | apply obsC | apply obA | apply obM | apply obB | apply svA | apply tupA | apply lcA | apply lcS | apply svC | apply liC | apply lbC | apply lsC | apply vIc | apply vBc | apply vSc | apply vLc | apply mapC | apply Hc_toExportSLa | apply Ec_toExportSLa | apply EW0c_toExportSLa | apply c_toExport)
  all_goals (try simp only [std] at *)
  all_goals (try (first | with_reducible rfl | omega | assumption | exact rowGet (by first | omega | (simp only [std]; omega) | grind) | exact getC (by first | omega | (simp only [std]; omega) | grind) rfl | exact fill_step (by first | omega | (simp only [std]; omega) | grind) (by first | rfl | exact (Row.eq _).trans rfl) | exact fill_init (by first | rfl | exact (Row.eq _).trans rfl) | grind [fillTo_all, getD_mem', sumBy_mem, snocI, snocS, rowSnoc]))
theorem run_c_toExportS (L : List Export) : aexec Try.prog (Option.getD (Func.body Try.f187) Code.skip) (entry [] [ll (List.map exportC L)] 23) [Orc.ghost (Ghost.sel [0] [0, 3,
 4]), Orc.loop (List.length L - 0) (Lc_toExportSLa L 0) (Ic_toExportSLa L) [(True, AEx.exit 0, W0c_toExportSLa L (Ob.arr true 4 (List.map exportC L)), [Orc.fin [0]])]] (finK
 Try.prog [ResultVar.tmp 2] [Ob.arr true 4 (List.map exportC L)] (AV.sv (SV.one (AC.ref 0)))) = (List.length (List.map exportC L) ≤ 9223372036854775807 → (0 ≤ (↑(List.length
 (List.map exportC L)) : Int) ∧ 48 * Int.toNat (↑(List.length (List.map exportC L)) : Int) ≤ 281474976710656) ∧ Tc_toExportSLa L (li 0) (Ob.arr true 4 (List.replicate (Int.toNat
 (↑(List.length (List.map exportC L)) : Int)) [cS (ByteArray.mk #[]), cS (ByteArray.mk #[]), cI 0, cI 0])) = Lc_toExportSLa L 0 ∧ Ic_toExportSLa L (List.length L - 0)
 (Lc_toExportSLa L 0) ∧ LoopSem Try.prog (loopAt Try.f187 0) (Ic_toExportSLa L) (Yc_toExportSLa L) ∧ (True → ObsEq [Ob.arr true 4 (List.map exportC L)] [Ob.arr true 4 (List.map
 exportC L)] ∧ AV.sv (SV.one (AC.ref 0)) = AV.sv (SV.one (AC.ref 0))) ∧ True) := by kernel_rfl
theorem c_toExportS (L : List Export) (h : L.length + sumBy wE L ≤ 1048576)  : P_c_toExportS L := by
  refine CallOK.ofRun wide (run_c_toExportS L) Try.call187 Try.func187 rfl rfl rfl ?_
  with_reducible repeat' (first | apply And.intro | exact flatI | exact flatS | exact rowLens | (intro; skip) | apply obsN | apply obsC | apply obA | apply obM | apply obB | apply svA | apply tupA | apply lcA | apply lcS | apply svC | apply liC | apply lbC | apply lsC | apply vIc | apply vBc | apply vSc | apply vLc | apply mapC | apply Hc_toExportSLa | apply Ec_toExportSLa | apply Sc_toExportSLa | apply EW0c_toExportSLa | apply c_toExport)
  all_goals (try simp only [std] at *)
  all_goals (try (first | with_reducible rfl | omega | assumption | exact rowGet (by first | omega | (simp only [std]; omega) | grind) | exact getC (by first | omega | (simp only [std]; omega) | grind) rfl | exact fill_step (by first | omega | (simp only [std]; omega) | grind) (by first | rfl | exact (Row.eq _).trans rfl) | exact fill_init (by first | rfl | exact (Row.eq _).trans rfl) | grind [snocI, snocS, rowSnoc]))

abbrev P_c_toUnit (x : Unit) : Prop := CallOK Try.prog 83 [] [unitA x] (unitO x) (.sv (unitR x 0))
theorem run_c_toUnit (x : Unit) : aexec Try.prog (Option.getD (Func.body Try.f83) Code.skip) (entry [] [unitA x] 16) [Orc.call [Mode.rd] [Ob.arr true 1 (List.map intC (Unit.globals
 x))] (AV.sv (SV.one (AC.ref 0))), Orc.call [Mode.rd] (coreO (Unit.body x)) (AV.sv (coreR (Unit.body x) 0)), Orc.fin [3, 4, 5, 6]] (finK Try.prog [ResultVar.cell 2 124] (unitO x)
 (AV.sv (unitR x 0))) = (P_c_toIntS (Unit.globals x) ∧ P_c_toCore (Unit.body x) ∧ ObsEq [Ob.arr true 1 (List.map intC (Unit.globals x)), Ob.arr true 1 (List.map intC (Core.params
 (Unit.body x))), Ob.arr true 4 (List.map datumC (Datum.items (Core.datum (Unit.body x)))), Ob.arr true 8 (List.map coreC (Core.kids (Unit.body x)))] [Ob.arr true 1 (List.map intC
 (Unit.globals x)), Ob.arr true 1 (List.map intC (Core.params (Unit.body x))), Ob.arr true 4 (List.map datumC (Datum.items (Core.datum (Unit.body x)))), Ob.arr true 8 (List.map
 coreC (Core.kids (Unit.body x)))] ∧ AV.sv (SV.agg [vS (Unit.name x), AC.ref 0, vI (Core.kind (Unit.body x)), vI (Core.number (Unit.body x)), AC.ref 1, vI (Datum.kind (Core.datum
 (Unit.body x))), vI (Datum.number (Core.datum (Unit.body x))), vS (Datum.text (Core.datum (Unit.body x))), AC.ref 2, AC.ref 3]) = AV.sv (SV.agg [vS (Unit.name x), AC.ref 0, vI
 (Core.kind (Unit.body x)), vI (Core.number (Unit.body x)), AC.ref 1, vI (Datum.kind (Core.datum (Unit.body x))), vI (Datum.number (Core.datum (Unit.body x))), vS (Datum.text
 (Core.datum (Unit.body x))), AC.ref 2, AC.ref 3])) := by kernel_rfl
theorem c_toUnit (x : Unit) (h : wU x ≤ 1048576)  : P_c_toUnit x := by
  refine CallOK.ofRun wide (run_c_toUnit x) Try.call83 Try.func83 rfl rfl rfl ?_
  with_reducible repeat' (first | apply And.intro | exact flatI | exact flatS | exact rowLens | (intro; skip) | apply obsN | apply obsC | apply obA | apply obM | apply obB | apply svA | apply tupA | apply lcA | apply lcS | apply svC | apply liC | apply lbC | apply lsC | apply vIc | apply vBc | apply vSc | apply vLc | apply mapC | apply c_toIntS | apply c_toCore)
  all_goals (try simp only [std] at *)
  all_goals (try (first | with_reducible rfl | omega | assumption | exact rowGet (by first | omega | (simp only [std]; omega) | grind) | exact getC (by first | omega | (simp only [std]; omega) | grind) rfl | exact fill_step (by first | omega | (simp only [std]; omega) | grind) (by first | rfl | exact (Row.eq _).trans rfl) | exact fill_init (by first | rfl | exact (Row.eq _).trans rfl) | grind [wU_eq, wS, snocI, snocS, rowSnoc]))

abbrev P_c_toUnitS (L : List Unit) : Prop := CallOK Try.prog 41 [] [ll (L.map unitC)] [.arr true 10 (L.map unitC)] (.sv (.one (.ref 0)))
def Tc_toUnitSLa (L : List Unit) (x0 : SV) (x1 : Ob) : St := St.mk (regsOf 23 [(0, AV.sv (ll (List.map unitC L))), (3, AV.sv (SV.one (AC.ref 0))), (4, AV.sv x0)]) [x1] 0 
def Lc_toUnitSLa (L : List Unit) (k : Nat) : St := Tc_toUnitSLa L (li (↑k : Int)) (Ob.arr true 10 (List.map unitC (fillTo L k))) 
def Ic_toUnitSLa (L : List Unit) : Nat → St → Prop := Head (Lc_toUnitSLa L) (fun k => k ≤ List.length L ∧ List.length L ≤ 9223372036854775807) fun k => List.length L - k 
def W0c_toUnitSLa (L : List Unit) (x0 : Ob) : St := St.mk (regsOf 23 [(3, AV.sv (SV.one (AC.ref 0)))]) [x0] 0 
def Yc_toUnitSLa (L : List Unit) : List (Prop × AEx × St) := [(True, AEx.exit 0, W0c_toUnitSLa L (Ob.arr true 10 (List.map unitC L)))]
theorem Hc_toUnitSLa {L : List Unit} {k : Nat} {m : Nat} (h : (fun k => k ≤ List.length L ∧ List.length L ≤ 9223372036854775807) k) (hm : (fun k => List.length L - k) k = m) :
 Ic_toUnitSLa L m (Lc_toUnitSLa L k) := hm ▸ Head.mk h
theorem Ec_toUnitSLa {L : List Unit} {k : Nat} {x0 : SV} {x1 : Ob} (h0 : x0 = (li (↑k : Int))) (h1 : x1 = (Ob.arr true 10 (List.map unitC (fillTo L k)))) : Tc_toUnitSLa L x0 x1 =
 Lc_toUnitSLa L k := by (rw [h0, h1]; rfl)
theorem EW0c_toUnitSLa {L : List Unit} {x0 y0 : Ob} (h0 : x0 = y0) : W0c_toUnitSLa L x0 = W0c_toUnitSLa L y0 := by rw [h0]
theorem run_c_toUnitSLa (L : List Unit) (k : Nat) : aexec Try.prog (loopAt Try.f41 0) (Lc_toUnitSLa L k) [Orc.br [Orc.cells (unitF (List.getD L k default)), Orc.call [Mode.rd]
 (unitO (List.getD L k default)) (AV.sv (unitR (List.getD L k default) 0)), Orc.cells (unitF (List.getD (fillTo L k) (Int.toNat (↑k : Int)) default)), Orc.ghost (Ghost.sel [0] [0,
 3, 4]), Orc.goto (List.length L - (k + 1)) (Lc_toUnitSLa L (k + 1))] [Orc.ghost (Ghost.sel [0] [3]), Orc.out 0]] (loopK (Ic_toUnitSLa L) (Yc_toUnitSLa L) (List.length L - k)) =
 (List.length (List.map unitC L) ≤ 9223372036854775807 → (decide ((↑k : Int) < (↑(List.length (List.map unitC L)) : Int)) = true → (0 ≤ (↑k : Int) ∧ (List.map unitC L)[Int.toNat
 (↑k : Int)]? = some (unitF (List.getD L k default))) ∧ P_c_toUnit (List.getD L k default) ∧ (0 ≤ (↑k : Int) ∧ Int.toNat (↑k : Int) < List.length (List.map unitC (fillTo L k))) ∧
 (List.map unitC (fillTo L k))[Int.toNat (↑k : Int)]? = some (unitF (List.getD (fillTo L k) (Int.toNat (↑k : Int)) default)) ∧ rng IntKind.i64 ((↑k : Int) + 1) ∧ List.length L - (k
 + 1) < List.length L - k ∧ Tc_toUnitSLa L (li ((↑k : Int) + 1)) (Ob.arr true 10 (List.set (List.map unitC (fillTo L k)) (Int.toNat (↑k : Int)) (unitF (List.getD L k default)))) =
 Lc_toUnitSLa L (k + 1) ∧ Ic_toUnitSLa L (List.length L - (k + 1)) (Lc_toUnitSLa L (k + 1))) ∧ (decide ((↑k : Int) < (↑(List.length (List.map unitC L)) : Int)) = false → True ∧
 W0c_toUnitSLa L (Ob.arr true 10 (List.map unitC (fillTo L k))) = W0c_toUnitSLa L (Ob.arr true 10 (List.map unitC L)))) := by kernel_rfl
theorem Sc_toUnitSLa (L : List Unit) (h : List.length L + sumBy wU L ≤ 1048576)  : LoopSem Try.prog (loopAt Try.f41 0) (Ic_toUnitSLa L) (Yc_toUnitSLa L) := by
  refine LoopSem.ofHead wide fun k h => ⟨_, _, run_c_toUnitSLa L k, ?_⟩
  with_reducible repeat' (first | apply And.intro | exact flatI | exact flatS | exact rowLens | (intro; skip) | apply obsN | apply obsC | apply obA | apply obM | apply obB | apply svA | apply tupA | apply lcA | apply lcS | apply svC | apply liC | apply lbC | apply lsC | apply vIc | apply vBc | apply vSc | apply vLc | apply mapC | apply Hc_toUnitSLa | apply Ec_toUnitSLa | apply EW0c_toUnitSLa | apply c_toUnit)
  all_goals (try simp only [std] at *)
  all_goals (try (first | with_reducible rfl | omega | assumption | exact rowGet (by first | omega | (simp only [std]; omega) | grind) | exact getC (by first | omega | (simp only [std]; omega) | grind) rfl | exact fill_step (by first | omega | (simp only [std]; omega) | grind) (by first | rfl | exact (Row.eq _).trans rfl) | exact fill_init (by first | rfl | exact (Row.eq _).trans rfl) | grind [fillTo_all, getD_mem', sumBy_mem, snocI, snocS, rowSnoc]))
theorem run_c_toUnitS (L : List Unit) : aexec Try.prog (Option.getD (Func.body Try.f41) Code.skip) (entry [] [ll (List.map unitC L)] 23) [Orc.ghost (Ghost.sel [0] [0, 3, 4]),
 Orc.loop (List.length L - 0) (Lc_toUnitSLa L 0) (Ic_toUnitSLa L) [(True, AEx.exit 0, W0c_toUnitSLa L (Ob.arr true 10 (List.map unitC L)), [Orc.fin [0]])]] (finK Try.prog
 [ResultVar.tmp 2] [Ob.arr true 10 (List.map unitC L)] (AV.sv (SV.one (AC.ref 0)))) = (List.length (List.map unitC L) ≤ 9223372036854775807 → (0 ≤ (↑(List.length (List.map unitC
 L)) : Int) ∧ 160 * Int.toNat (↑(List.length (List.map unitC L)) : Int) ≤ 281474976710656) ∧ Tc_toUnitSLa L (li 0) (Ob.arr true 10 (List.replicate (Int.toNat (↑(List.length
 (List.map unitC L)) : Int)) [cS (ByteArray.mk #[]), Cell.list [], cI 0, cI 0, Cell.list [], cI 0, cI 0, cS (ByteArray.mk #[]), Cell.list [], Cell.list []])) = Lc_toUnitSLa L 0 ∧
 Ic_toUnitSLa L (List.length L - 0) (Lc_toUnitSLa L 0) ∧ LoopSem Try.prog (loopAt Try.f41 0) (Ic_toUnitSLa L) (Yc_toUnitSLa L) ∧ (True → ObsEq [Ob.arr true 10 (List.map unitC L)]
 [Ob.arr true 10 (List.map unitC L)] ∧ AV.sv (SV.one (AC.ref 0)) = AV.sv (SV.one (AC.ref 0))) ∧ True) := by kernel_rfl
theorem c_toUnitS (L : List Unit) (h : L.length + sumBy wU L ≤ 1048576)  : P_c_toUnitS L := by
  refine CallOK.ofRun wide (run_c_toUnitS L) Try.call41 Try.func41 rfl rfl rfl ?_
  with_reducible repeat' (first | apply And.intro | exact flatI | exact flatS | exact rowLens | (intro; skip) | apply obsN | apply obsC | apply obA | apply obM | apply obB | apply svA | apply tupA | apply lcA | apply lcS | apply svC | apply liC | apply lbC | apply lsC | apply vIc | apply vBc | apply vSc | apply vLc | apply mapC | apply Hc_toUnitSLa | apply Ec_toUnitSLa | apply Sc_toUnitSLa | apply EW0c_toUnitSLa | apply c_toUnit)
  all_goals (try simp only [std] at *)
  all_goals (try (first | with_reducible rfl | omega | assumption | exact rowGet (by first | omega | (simp only [std]; omega) | grind) | exact getC (by first | omega | (simp only [std]; omega) | grind) rfl | exact fill_step (by first | omega | (simp only [std]; omega) | grind) (by first | rfl | exact (Row.eq _).trans rfl) | exact fill_init (by first | rfl | exact (Row.eq _).trans rfl) | grind [snocI, snocS, rowSnoc]))

abbrev P_c_toWorld (x : World) : Prop := CallOK Try.prog 77 [] [worldA x] (worldO x) (.sv (worldR x 0))
theorem run_c_toWorld (x : World) : aexec Try.prog (Option.getD (Func.body Try.f77) Code.skip) (entry [] [worldA x] 17) [Orc.call [Mode.rd] (expanderO (World.expander x)) (AV.sv
 (expanderR (World.expander x) 0)), Orc.call [Mode.rd] [Ob.arr true 10 (List.map unitC (World.units x))] (AV.sv (SV.one (AC.ref 0))), Orc.call [Mode.rd] [Ob.arr true 4 (List.map
 exportC (World.exports x))] (AV.sv (SV.one (AC.ref 0))), Orc.fin [3, 4, 5, 6]] (finK Try.prog [ResultVar.cell 2 114] (worldO x) (AV.sv (worldR x 0))) = (P_c_toExpander
 (World.expander x) ∧ P_c_toUnitS (World.units x) ∧ P_c_toExportS (World.exports x) ∧ ObsEq [Ob.arr true 4 (List.map bindingC (Expander.bindings (World.expander x))), Ob.arr true 3
 (List.map rulesC (Expander.macros (World.expander x))), Ob.arr true 10 (List.map unitC (World.units x)), Ob.arr true 4 (List.map exportC (World.exports x))] [Ob.arr true 4
 (List.map bindingC (Expander.bindings (World.expander x))), Ob.arr true 3 (List.map rulesC (Expander.macros (World.expander x))), Ob.arr true 10 (List.map unitC (World.units x)),
 Ob.arr true 4 (List.map exportC (World.exports x))] ∧ AV.sv (SV.agg [AC.ref 0, AC.ref 1, vI (Expander.scope (World.expander x)), vI (Expander.vari (World.expander x)), vI
 (Expander.steps (World.expander x)), AC.ref 2, AC.ref 3]) = AV.sv (SV.agg [AC.ref 0, AC.ref 1, vI (Expander.scope (World.expander x)), vI (Expander.vari (World.expander x)), vI
 (Expander.steps (World.expander x)), AC.ref 2, AC.ref 3])) := by kernel_rfl
theorem c_toWorld (x : World) (h : wW x ≤ 1048576)  : P_c_toWorld x := by
  refine CallOK.ofRun wide (run_c_toWorld x) Try.call77 Try.func77 rfl rfl rfl ?_
  with_reducible repeat' (first | apply And.intro | exact flatI | exact flatS | exact rowLens | (intro; skip) | apply obsN | apply obsC | apply obA | apply obM | apply obB | apply svA | apply tupA | apply lcA | apply lcS | apply svC | apply liC | apply lbC | apply lsC | apply vIc | apply vBc | apply vSc | apply vLc | apply mapC | apply c_toExpander | apply c_toUnitS | apply c_toExportS)
  all_goals (try simp only [std] at *)
  all_goals (try (first | with_reducible rfl | omega | assumption | exact rowGet (by first | omega | (simp only [std]; omega) | grind) | exact getC (by first | omega | (simp only [std]; omega) | grind) rfl | exact fill_step (by first | omega | (simp only [std]; omega) | grind) (by first | rfl | exact (Row.eq _).trans rfl) | exact fill_init (by first | rfl | exact (Row.eq _).trans rfl) | grind [wW_eq, wS, snocI, snocS, rowSnoc]))

end Go.Proofs.Ytamcedjjlokfhaa
