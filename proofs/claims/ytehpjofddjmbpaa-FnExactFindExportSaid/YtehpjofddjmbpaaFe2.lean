/- The law FnExactFindExport holds: FindExport answers as the reference's does. No condition. -/
import Derived.Test.YtehpjofddjmbpaaFe1
section
namespace Go.Proofs.Ytehpjofddjmbpaa
open Go Go.Proofs.Ytehpjofddjmbpaa.Ab
set_option linter.unusedVariables false
set_option linter.unusedSimpArgs false
set_option maxHeartbeats 4000000
abbrev P_c_eqIntS (A : List Int) (B : List Int) : Prop := CallOK Try.prog 28 [] [ll (A.map intC), ll (B.map intC)] [] (.sv (lb (decide (A = B))))
def Tc_eqIntSLa (A : List Int) (B : List Int) (x0 : SV) : St := St.mk (regsOf 26 [(0, AV.sv (ll (List.map intC A))), (1, AV.sv (ll (List.map intC B))), (5, AV.sv x0)]) [] 0 
def Lc_eqIntSLa (A : List Int) (B : List Int) (k : Nat) : St := Tc_eqIntSLa A B (li (↑k : Int)) 
def Ic_eqIntSLa (A : List Int) (B : List Int) : Nat → St → Prop := Head (Lc_eqIntSLa A B) (fun k => k ≤ List.length A ∧ List.length A ≤ 9223372036854775807 ∧ List.length A =
 List.length B ∧ List.take k A = List.take k B) fun k => List.length A - k 
def W0c_eqIntSLa (A : List Int) (B : List Int) : St := St.mk (regsOf 26 []) [] 0 
def W1c_eqIntSLa (A : List Int) (B : List Int) (x0 : SV) : St := St.mk (regsOf 26 [(4, AV.sv x0)]) [] 0 
def Yc_eqIntSLa (A : List Int) (B : List Int) : List (Prop × AEx × St) := [(A = B, AEx.exit 0, W0c_eqIntSLa A B), (A ≠ B, AEx.ret, W1c_eqIntSLa A B (lb false))]
theorem Hc_eqIntSLa {A : List Int} {B : List Int} {k : Nat} {m : Nat} (h : (fun k => k ≤ List.length A ∧ List.length A ≤ 9223372036854775807 ∧ List.length A = List.length B ∧
 List.take k A = List.take k B) k) (hm : (fun k => List.length A - k) k = m) : Ic_eqIntSLa A B m (Lc_eqIntSLa A B k) := hm ▸ Head.mk h
theorem Ec_eqIntSLa {A : List Int} {B : List Int} {k : Nat} {x0 : SV} (h0 : x0 = (li (↑k : Int))) : Tc_eqIntSLa A B x0 = Lc_eqIntSLa A B k := by
  rw [h0]
  rfl
theorem EW1c_eqIntSLa {A : List Int} {B : List Int} {x0 y0 : SV} (h0 : x0 = y0) : W1c_eqIntSLa A B x0 = W1c_eqIntSLa A B y0 := by rw [h0]
theorem run_c_eqIntSLa (A : List Int) (B : List Int) (k : Nat) : aexec Try.prog (loopAt Try.f28 0) (Lc_eqIntSLa A B k) [Orc.br [Orc.draw [], Orc.cells (intC (List.getD A k
 default)), Orc.cells (intC (List.getD B k default)), Orc.br [Orc.ghost (Ghost.sel [] [4]), Orc.out 1] [Orc.ghost (Ghost.sel [] [0, 1, 5]), Orc.goto (List.length A - (k + 1))
 (Lc_eqIntSLa A B (k + 1))]] [Orc.ghost (Ghost.sel [] []), Orc.out 0]] (loopK (Ic_eqIntSLa A B) (Yc_eqIntSLa A B) (List.length A - k)) = (List.length (List.map intC A) ≤
 9223372036854775807 → (decide ((↑k : Int) < (↑(List.length (List.map intC A)) : Int)) = true → (0 ≤ (↑k : Int) ∧ (List.map intC A)[Int.toNat (↑k : Int)]? = some [cI (List.getD A k
 0)]) ∧ (0 ≤ (↑k : Int) ∧ (List.map intC B)[Int.toNat (↑k : Int)]? = some [cI (List.getD B k 0)]) ∧ (decide (List.getD A k (0 : Int) ≠ List.getD B k 0) = true → A ≠ B ∧
 W1c_eqIntSLa A B (lb false) = W1c_eqIntSLa A B (lb false)) ∧ (decide (List.getD A k (0 : Int) ≠ List.getD B k 0) = false → rng IntKind.i64 ((↑k : Int) + 1) ∧ List.length A - (k +
 1) < List.length A - k ∧ Tc_eqIntSLa A B (li ((↑k : Int) + 1)) = Lc_eqIntSLa A B (k + 1) ∧ Ic_eqIntSLa A B (List.length A - (k + 1)) (Lc_eqIntSLa A B (k + 1)))) ∧ (decide ((↑k :
 Int) < (↑(List.length (List.map intC A)) : Int)) = false → A = B ∧ W0c_eqIntSLa A B = W0c_eqIntSLa A B)) := by kernel_rfl
theorem Sc_eqIntSLa (A : List Int) (B : List Int)  : LoopSem Try.prog (loopAt Try.f28 0) (Ic_eqIntSLa A B) (Yc_eqIntSLa A B) := by
  refine LoopSem.ofHead wide fun k h => ⟨_, _, run_c_eqIntSLa A B k, ?_⟩
  with_reducible repeat' (first | apply And.intro | exact flatI | exact flatS | exact rowLens | (intro; skip) | apply obsN | apply obsC | apply obA | apply obM | apply obB | apply svA | apply tupA | apply lcA | apply lcS | apply svC | apply liC | apply lbC | apply lsC | apply vIc | apply vBc | apply vSc | apply vLc | apply mapC | apply Hc_eqIntSLa | apply Ec_eqIntSLa | apply EW1c_eqIntSLa)
  all_goals (try simp only [std] at *)
  all_goals (try (first | with_reducible rfl | omega | assumption | (refine (decide_eq_true ?_).symm; assumption) | (refine (decide_eq_false ?_).symm; assumption) | (refine rowGet ?_; (first | omega | (simp only [std]; omega) | grind)) | (refine getC ?_ rfl; (first | omega | (simp only [std]; omega) | grind)) | (refine fill_step ?_ ?_; (first | omega | (simp only [std]; omega) | grind); (first | rfl | exact (Row.eq _).trans rfl)) | (refine fill_init ?_; (first | rfl | exact (Row.eq _).trans rfl)) | grind [take_eq, snocI, snocS, rowSnoc]))
theorem run_c_eqIntS (A : List Int) (B : List Int) : aexec Try.prog (Option.getD (Func.body Try.f28) Code.skip) (entry [] [ll (List.map intC A), ll (List.map intC B)] 26) [Orc.br
 [Orc.fin []] [Orc.ghost (Ghost.sel [] [0, 1, 5]), Orc.loop (List.length A - 0) (Lc_eqIntSLa A B 0) (Ic_eqIntSLa A B) [(A = B, AEx.exit 0, W0c_eqIntSLa A B, [Orc.fin []]), (A ≠ B,
 AEx.ret, W1c_eqIntSLa A B (lb false), [Orc.fin []])]]] (finK Try.prog [ResultVar.tmp 4] [] (AV.sv (lb (decide (A = B))))) = (List.length (List.map intC A) ≤ 9223372036854775807 →
 List.length (List.map intC B) ≤ 9223372036854775807 → (decide ((↑(List.length (List.map intC A)) : Int) ≠ (↑(List.length (List.map intC B)) : Int)) = true → ObsEq [] [] ∧ AV.sv
 (lb false) = AV.sv (lb (decide (A = B)))) ∧ (decide ((↑(List.length (List.map intC A)) : Int) ≠ (↑(List.length (List.map intC B)) : Int)) = false → Tc_eqIntSLa A B (li 0) =
 Lc_eqIntSLa A B 0 ∧ Ic_eqIntSLa A B (List.length A - 0) (Lc_eqIntSLa A B 0) ∧ LoopSem Try.prog (loopAt Try.f28 0) (Ic_eqIntSLa A B) (Yc_eqIntSLa A B) ∧ (A = B → ObsEq [] [] ∧
 AV.sv (lb true) = AV.sv (lb (decide (A = B)))) ∧ ((A = B → False) → ObsEq [] [] ∧ AV.sv (lb false) = AV.sv (lb (decide (A = B)))) ∧ True)) := by kernel_rfl
theorem c_eqIntS (A B : List Int)  : P_c_eqIntS A B := by
  refine CallOK.ofRun wide (run_c_eqIntS A B) Try.call28 Try.func28 rfl rfl rfl ?_
  with_reducible repeat' (first | apply And.intro | exact flatI | exact flatS | exact rowLens | (intro; skip) | apply obsN | apply obsC | apply obA | apply obM | apply obB | apply svA | apply tupA | apply lcA | apply lcS | apply svC | apply liC | apply lbC | apply lsC | apply vIc | apply vBc | apply vSc | apply vLc | apply mapC | apply Hc_eqIntSLa | apply Ec_eqIntSLa | apply Sc_eqIntSLa | apply EW1c_eqIntSLa)
  all_goals (try simp only [std] at *)
  all_goals (try (first | with_reducible rfl | omega | assumption | (refine (decide_eq_true ?_).symm; assumption) | (refine (decide_eq_false ?_).symm; assumption) | (refine rowGet ?_; (first | omega | (simp only [std]; omega) | grind)) | (refine getC ?_ rfl; (first | omega | (simp only [std]; omega) | grind)) | (refine fill_step ?_ ?_; (first | omega | (simp only [std]; omega) | grind); (first | rfl | exact (Row.eq _).trans rfl)) | (refine fill_init ?_; (first | rfl | exact (Row.eq _).trans rfl)) | grind [snocI, snocS, rowSnoc]))
abbrev P_c_eqDatumS (A : List Datum) (B : List Datum) : Prop := CallOK Try.prog 131 [] [ll (A.map datumC), ll (B.map datumC)] [] (.sv (lb (decide (A = B))))
abbrev P_c_eqDatum (x : Datum) (y : Datum) : Prop := CallOK Try.prog 46 [] [datumA x, datumA y] [] (.sv (lb (decide (x = y))))
def Tc_eqDatumSLa (A : List Datum) (B : List Datum) (x0 : SV) : St := St.mk (regsOf 27 [(0, AV.sv (ll (List.map datumC A))), (1, AV.sv (ll (List.map datumC B))), (5, AV.sv x0)]) []
 0 
def Lc_eqDatumSLa (A : List Datum) (B : List Datum) (k : Nat) : St := Tc_eqDatumSLa A B (li (↑k : Int)) 
def Ic_eqDatumSLa (A : List Datum) (B : List Datum) : Nat → St → Prop := Head (Lc_eqDatumSLa A B) (fun k => k ≤ List.length A ∧ List.length A ≤ 9223372036854775807 ∧ List.length A
 = List.length B ∧ List.take k A = List.take k B) fun k => List.length A - k 
def W0c_eqDatumSLa (A : List Datum) (B : List Datum) : St := St.mk (regsOf 27 []) [] 0 
def W1c_eqDatumSLa (A : List Datum) (B : List Datum) (x0 : SV) : St := St.mk (regsOf 27 [(4, AV.sv x0)]) [] 0 
def Yc_eqDatumSLa (A : List Datum) (B : List Datum) : List (Prop × AEx × St) := [(A = B, AEx.exit 0, W0c_eqDatumSLa A B), (A ≠ B, AEx.ret, W1c_eqDatumSLa A B (lb false))]
theorem Hc_eqDatumSLa {A : List Datum} {B : List Datum} {k : Nat} {m : Nat} (h : (fun k => k ≤ List.length A ∧ List.length A ≤ 9223372036854775807 ∧ List.length A = List.length B ∧
 List.take k A = List.take k B) k) (hm : (fun k => List.length A - k) k = m) : Ic_eqDatumSLa A B m (Lc_eqDatumSLa A B k) := hm ▸ Head.mk h
theorem Ec_eqDatumSLa {A : List Datum} {B : List Datum} {k : Nat} {x0 : SV} (h0 : x0 = (li (↑k : Int))) : Tc_eqDatumSLa A B x0 = Lc_eqDatumSLa A B k := by
  rw [h0]
  rfl
theorem EW1c_eqDatumSLa {A : List Datum} {B : List Datum} {x0 y0 : SV} (h0 : x0 = y0) : W1c_eqDatumSLa A B x0 = W1c_eqDatumSLa A B y0 := by rw [h0]
theorem run_c_eqDatumSLa (A : List Datum) (B : List Datum) (k : Nat) : aexec Try.prog (loopAt Try.f131 0) (Lc_eqDatumSLa A B k) [Orc.br [Orc.draw [], Orc.cells (datumF (List.getD A
 k default)), Orc.cells (datumF (List.getD B k default)), Orc.call [Mode.rd, Mode.rd] [] (AV.sv (lb (decide (List.getD A k default = List.getD B k default)))), Orc.br [Orc.ghost
 (Ghost.sel [] [4]), Orc.out 1] [Orc.ghost (Ghost.sel [] [0, 1, 5]), Orc.goto (List.length A - (k + 1)) (Lc_eqDatumSLa A B (k + 1))]] [Orc.ghost (Ghost.sel [] []), Orc.out 0]]
 (loopK (Ic_eqDatumSLa A B) (Yc_eqDatumSLa A B) (List.length A - k)) = (List.length (List.map datumC A) ≤ 9223372036854775807 → (decide ((↑k : Int) < (↑(List.length (List.map
 datumC A)) : Int)) = true → (0 ≤ (↑k : Int) ∧ (List.map datumC A)[Int.toNat (↑k : Int)]? = some (datumF (List.getD A k default))) ∧ (0 ≤ (↑k : Int) ∧ (List.map datumC B)[Int.toNat
 (↑k : Int)]? = some (datumF (List.getD B k default))) ∧ P_c_eqDatum (List.getD A k default) (List.getD B k default) ∧ ((!decide (List.getD A k default = List.getD B k default)) =
 true → A ≠ B ∧ W1c_eqDatumSLa A B (lb false) = W1c_eqDatumSLa A B (lb false)) ∧ ((!decide (List.getD A k default = List.getD B k default)) = false → rng IntKind.i64 ((↑k : Int) +
 1) ∧ List.length A - (k + 1) < List.length A - k ∧ Tc_eqDatumSLa A B (li ((↑k : Int) + 1)) = Lc_eqDatumSLa A B (k + 1) ∧ Ic_eqDatumSLa A B (List.length A - (k + 1)) (Lc_eqDatumSLa
 A B (k + 1)))) ∧ (decide ((↑k : Int) < (↑(List.length (List.map datumC A)) : Int)) = false → A = B ∧ W0c_eqDatumSLa A B = W0c_eqDatumSLa A B)) := by kernel_rfl
theorem Sc_eqDatumSLa (A : List Datum) (B : List Datum) (ih : ∀ (x : Datum), x ∈ A → ∀ (y : Datum), P_c_eqDatum x y)  : LoopSem Try.prog (loopAt Try.f131 0) (Ic_eqDatumSLa A B)
 (Yc_eqDatumSLa A B) := by
  refine LoopSem.ofHead wide fun k h => ⟨_, _, run_c_eqDatumSLa A B k, ?_⟩
  with_reducible repeat' (first | apply And.intro | exact flatI | exact flatS | exact rowLens | exact ih | (intro; skip) | apply obsN | apply obsC | apply obA | apply obM | apply obB | apply svA | apply tupA | apply lcA | apply lcS | apply svC | apply liC | apply lbC | apply lsC | apply vIc | apply vBc | apply vSc | apply vLc | apply mapC | apply Hc_eqDatumSLa | apply Ec_eqDatumSLa | apply EW1c_eqDatumSLa | apply ih)
  all_goals (try simp only [std] at *)
  all_goals (try (first | with_reducible rfl | omega | assumption | (refine (decide_eq_true ?_).symm; assumption) | (refine (decide_eq_false ?_).symm; assumption) | (refine rowGet ?_; (first | omega | (simp only [std]; omega) | grind)) | (refine getC ?_ rfl; (first | omega | (simp only [std]; omega) | grind)) | (refine fill_step ?_ ?_; (first | omega | (simp only [std]; omega) | grind); (first | rfl | exact (Row.eq _).trans rfl)) | (refine fill_init ?_; (first | rfl | exact (Row.eq _).trans rfl)) | grind [take_eq, getD_mem', snocI, snocS, rowSnoc]))
theorem run_c_eqDatumS (A : List Datum) (B : List Datum) : aexec Try.prog (Option.getD (Func.body Try.f131) Code.skip) (entry [] [ll (List.map datumC A), ll (List.map datumC B)]
 27) [Orc.br [Orc.fin []] [Orc.ghost (Ghost.sel [] [0, 1, 5]), Orc.loop (List.length A - 0) (Lc_eqDatumSLa A B 0) (Ic_eqDatumSLa A B) [(A = B, AEx.exit 0, W0c_eqDatumSLa A B,
 [Orc.fin []]), (A ≠ B, AEx.ret, W1c_eqDatumSLa A B (lb false), [Orc.fin []])]]] (finK Try.prog [ResultVar.tmp 4] [] (AV.sv (lb (decide (A = B))))) = (List.length (List.map datumC
 A) ≤ 9223372036854775807 → List.length (List.map datumC B) ≤ 9223372036854775807 → (decide ((↑(List.length (List.map datumC A)) : Int) ≠ (↑(List.length (List.map datumC B)) :
 Int)) = true → ObsEq [] [] ∧ AV.sv (lb false) = AV.sv (lb (decide (A = B)))) ∧ (decide ((↑(List.length (List.map datumC A)) : Int) ≠ (↑(List.length (List.map datumC B)) : Int)) =
 false → Tc_eqDatumSLa A B (li 0) = Lc_eqDatumSLa A B 0 ∧ Ic_eqDatumSLa A B (List.length A - 0) (Lc_eqDatumSLa A B 0) ∧ LoopSem Try.prog (loopAt Try.f131 0) (Ic_eqDatumSLa A B)
 (Yc_eqDatumSLa A B) ∧ (A = B → ObsEq [] [] ∧ AV.sv (lb true) = AV.sv (lb (decide (A = B)))) ∧ ((A = B → False) → ObsEq [] [] ∧ AV.sv (lb false) = AV.sv (lb (decide (A = B)))) ∧
 True)) := by kernel_rfl
theorem c_eqDatumS (A B : List Datum) (ih : ∀ x ∈ A, ∀ (y : Datum), P_c_eqDatum x y)  : P_c_eqDatumS A B := by
  refine CallOK.ofRun wide (run_c_eqDatumS A B) Try.call131 Try.func131 rfl rfl rfl ?_
  with_reducible repeat' (first | apply And.intro | exact flatI | exact flatS | exact rowLens | exact ih | (intro; skip) | apply obsN | apply obsC | apply obA | apply obM | apply obB | apply svA | apply tupA | apply lcA | apply lcS | apply svC | apply liC | apply lbC | apply lsC | apply vIc | apply vBc | apply vSc | apply vLc | apply mapC | apply Hc_eqDatumSLa | apply Ec_eqDatumSLa | apply Sc_eqDatumSLa | apply EW1c_eqDatumSLa)
  all_goals (try simp only [std] at *)
  all_goals (try (first | with_reducible rfl | omega | assumption | (refine (decide_eq_true ?_).symm; assumption) | (refine (decide_eq_false ?_).symm; assumption) | (refine rowGet ?_; (first | omega | (simp only [std]; omega) | grind)) | (refine getC ?_ rfl; (first | omega | (simp only [std]; omega) | grind)) | (refine fill_step ?_ ?_; (first | omega | (simp only [std]; omega) | grind); (first | rfl | exact (Row.eq _).trans rfl)) | (refine fill_init ?_; (first | rfl | exact (Row.eq _).trans rfl)) | grind [snocI, snocS, rowSnoc]))
theorem run_c_eqDatum_s (x : Datum) (y : Datum) : aexec Try.prog (Option.getD (Func.body Try.f46) Code.skip) (entry [] [datumA x, datumA y] 26) [Orc.br [Orc.fin []] [Orc.br
 [Orc.fin []] [Orc.br [Orc.fin []] [Orc.call [Mode.rd, Mode.rd] [] (AV.sv (lb (decide (Datum.items x = Datum.items y)))), Orc.br [Orc.fin []] [Orc.fin []]]]]] (finK Try.prog
 [ResultVar.tmp 4] [] (AV.sv (lb (decide (x = y))))) = ((decide (Datum.kind x ≠ Datum.kind y) = true → ObsEq [] [] ∧ AV.sv (lb false) = AV.sv (lb (decide (x = y)))) ∧ (decide
 (Datum.kind x ≠ Datum.kind y) = false → (decide (Datum.number x ≠ Datum.number y) = true → ObsEq [] [] ∧ AV.sv (lb false) = AV.sv (lb (decide (x = y)))) ∧ (decide (Datum.number x
 ≠ Datum.number y) = false → (decide (Array.toList (ByteArray.data (Datum.text x)) ≠ Array.toList (ByteArray.data (Datum.text y))) = true → ObsEq [] [] ∧ AV.sv (lb false) = AV.sv
 (lb (decide (x = y)))) ∧ (decide (Array.toList (ByteArray.data (Datum.text x)) ≠ Array.toList (ByteArray.data (Datum.text y))) = false → P_c_eqDatumS (Datum.items x) (Datum.items
 y) ∧ ((!decide (Datum.items x = Datum.items y)) = true → ObsEq [] [] ∧ AV.sv (lb false) = AV.sv (lb (decide (x = y)))) ∧ ((!decide (Datum.items x = Datum.items y)) = false → ObsEq
 [] [] ∧ AV.sv (lb true) = AV.sv (lb (decide (x = y)))))))) := by kernel_rfl
theorem c_eqDatum_s (x y : Datum) (ih : ∀ z ∈ x.items, ∀ (y : Datum), P_c_eqDatum z y)  : P_c_eqDatum x y := by
  refine CallOK.ofRun wide (run_c_eqDatum_s x y) Try.call46 Try.func46 rfl rfl rfl ?_
  simp only [datumExt]
  with_reducible repeat' (first | apply And.intro | exact flatI | exact flatS | exact rowLens | exact ih | (intro; skip) | apply obsN | apply obsC | apply obA | apply obM | apply obB | apply svA | apply tupA | apply lcA | apply lcS | apply svC | apply liC | apply lbC | apply lsC | apply vIc | apply vBc | apply vSc | apply vLc | apply mapC | apply c_eqDatumS | apply ih)
  all_goals (try simp only [std] at *)
  all_goals (try (first | with_reducible rfl | omega | assumption | (refine (decide_eq_true ?_).symm; assumption) | (refine (decide_eq_false ?_).symm; assumption) | (refine rowGet ?_; (first | omega | (simp only [std]; omega) | grind)) | (refine getC ?_ rfl; (first | omega | (simp only [std]; omega) | grind)) | (refine fill_step ?_ ?_; (first | omega | (simp only [std]; omega) | grind); (first | rfl | exact (Row.eq _).trans rfl)) | (refine fill_init ?_; (first | rfl | exact (Row.eq _).trans rfl)) | grind [bytes_ext, snocI, snocS, rowSnoc]))
theorem c_eqDatum (x : Datum) : ∀ (y : Datum), P_c_eqDatum x y := Datum.ind (P := fun x => ∀ (y : Datum), P_c_eqDatum x y) (fun x ih y => c_eqDatum_s x y ih) x
abbrev P_c_eqCoreS (A : List Core) (B : List Core) : Prop := CallOK Try.prog 171 [] [ll (A.map coreC), ll (B.map coreC)] [] (.sv (lb (decide (A = B))))
abbrev P_c_eqCore (x : Core) (y : Core) : Prop := CallOK Try.prog 63 [] [coreA x, coreA y] [] (.sv (lb (decide (x = y))))
def Tc_eqCoreSLa (A : List Core) (B : List Core) (x0 : SV) : St := St.mk (regsOf 27 [(0, AV.sv (ll (List.map coreC A))), (1, AV.sv (ll (List.map coreC B))), (5, AV.sv x0)]) [] 0 
def Lc_eqCoreSLa (A : List Core) (B : List Core) (k : Nat) : St := Tc_eqCoreSLa A B (li (↑k : Int)) 
def Ic_eqCoreSLa (A : List Core) (B : List Core) : Nat → St → Prop := Head (Lc_eqCoreSLa A B) (fun k => k ≤ List.length A ∧ List.length A ≤ 9223372036854775807 ∧ List.length A =
 List.length B ∧ List.take k A = List.take k B) fun k => List.length A - k 
def W0c_eqCoreSLa (A : List Core) (B : List Core) : St := St.mk (regsOf 27 []) [] 0 
def W1c_eqCoreSLa (A : List Core) (B : List Core) (x0 : SV) : St := St.mk (regsOf 27 [(4, AV.sv x0)]) [] 0 
def Yc_eqCoreSLa (A : List Core) (B : List Core) : List (Prop × AEx × St) := [(A = B, AEx.exit 0, W0c_eqCoreSLa A B), (A ≠ B, AEx.ret, W1c_eqCoreSLa A B (lb false))]
theorem Hc_eqCoreSLa {A : List Core} {B : List Core} {k : Nat} {m : Nat} (h : (fun k => k ≤ List.length A ∧ List.length A ≤ 9223372036854775807 ∧ List.length A = List.length B ∧
 List.take k A = List.take k B) k) (hm : (fun k => List.length A - k) k = m) : Ic_eqCoreSLa A B m (Lc_eqCoreSLa A B k) := hm ▸ Head.mk h
theorem Ec_eqCoreSLa {A : List Core} {B : List Core} {k : Nat} {x0 : SV} (h0 : x0 = (li (↑k : Int))) : Tc_eqCoreSLa A B x0 = Lc_eqCoreSLa A B k := by
  rw [h0]
  rfl
theorem EW1c_eqCoreSLa {A : List Core} {B : List Core} {x0 y0 : SV} (h0 : x0 = y0) : W1c_eqCoreSLa A B x0 = W1c_eqCoreSLa A B y0 := by rw [h0]
theorem run_c_eqCoreSLa (A : List Core) (B : List Core) (k : Nat) : aexec Try.prog (loopAt Try.f171 0) (Lc_eqCoreSLa A B k) [Orc.br [Orc.draw [], Orc.cells (coreF (List.getD A k
 default)), Orc.cells (coreF (List.getD B k default)), Orc.call [Mode.rd, Mode.rd] [] (AV.sv (lb (decide (List.getD A k default = List.getD B k default)))), Orc.br [Orc.ghost
 (Ghost.sel [] [4]), Orc.out 1] [Orc.ghost (Ghost.sel [] [0, 1, 5]), Orc.goto (List.length A - (k + 1)) (Lc_eqCoreSLa A B (k + 1))]] [Orc.ghost (Ghost.sel [] []), Orc.out 0]]
 (loopK (Ic_eqCoreSLa A B) (Yc_eqCoreSLa A B) (List.length A - k)) = (List.length (List.map coreC A) ≤ 9223372036854775807 → (decide ((↑k : Int) < (↑(List.length (List.map coreC
 A)) : Int)) = true → (0 ≤ (↑k : Int) ∧ (List.map coreC A)[Int.toNat (↑k : Int)]? = some (coreF (List.getD A k default))) ∧ (0 ≤ (↑k : Int) ∧ (List.map coreC B)[Int.toNat (↑k :
 Int)]? = some (coreF (List.getD B k default))) ∧ P_c_eqCore (List.getD A k default) (List.getD B k default) ∧ ((!decide (List.getD A k default = List.getD B k default)) = true → A
 ≠ B ∧ W1c_eqCoreSLa A B (lb false) = W1c_eqCoreSLa A B (lb false)) ∧ ((!decide (List.getD A k default = List.getD B k default)) = false → rng IntKind.i64 ((↑k : Int) + 1) ∧
 List.length A - (k + 1) < List.length A - k ∧ Tc_eqCoreSLa A B (li ((↑k : Int) + 1)) = Lc_eqCoreSLa A B (k + 1) ∧ Ic_eqCoreSLa A B (List.length A - (k + 1)) (Lc_eqCoreSLa A B (k +
 1)))) ∧ (decide ((↑k : Int) < (↑(List.length (List.map coreC A)) : Int)) = false → A = B ∧ W0c_eqCoreSLa A B = W0c_eqCoreSLa A B)) := by kernel_rfl
theorem Sc_eqCoreSLa (A : List Core) (B : List Core) (ih : ∀ (x : Core), x ∈ A → ∀ (y : Core), P_c_eqCore x y)  : LoopSem Try.prog (loopAt Try.f171 0) (Ic_eqCoreSLa A B)
 (Yc_eqCoreSLa A B) := by
  refine LoopSem.ofHead wide fun k h => ⟨_, _, run_c_eqCoreSLa A B k, ?_⟩
  with_reducible repeat' (first | apply And.intro | exact flatI | exact flatS | exact rowLens | exact ih | (intro; skip) | apply obsN | apply obsC | apply obA | apply obM | apply obB | apply svA | apply tupA | apply lcA | apply lcS | apply svC | apply liC | apply lbC | apply lsC | apply vIc | apply vBc | apply vSc | apply vLc | apply mapC | apply Hc_eqCoreSLa | apply Ec_eqCoreSLa | apply EW1c_eqCoreSLa | apply ih)
  all_goals (try simp only [std] at *)
  all_goals (try (first | with_reducible rfl | omega | assumption | (refine (decide_eq_true ?_).symm; assumption) | (refine (decide_eq_false ?_).symm; assumption) | (refine rowGet ?_; (first | omega | (simp only [std]; omega) | grind)) | (refine getC ?_ rfl; (first | omega | (simp only [std]; omega) | grind)) | (refine fill_step ?_ ?_; (first | omega | (simp only [std]; omega) | grind); (first | rfl | exact (Row.eq _).trans rfl)) | (refine fill_init ?_; (first | rfl | exact (Row.eq _).trans rfl)) | grind [take_eq, getD_mem', snocI, snocS, rowSnoc]))
theorem run_c_eqCoreS (A : List Core) (B : List Core) : aexec Try.prog (Option.getD (Func.body Try.f171) Code.skip) (entry [] [ll (List.map coreC A), ll (List.map coreC B)] 27)
 [Orc.br [Orc.fin []] [Orc.ghost (Ghost.sel [] [0, 1, 5]), Orc.loop (List.length A - 0) (Lc_eqCoreSLa A B 0) (Ic_eqCoreSLa A B) [(A = B, AEx.exit 0, W0c_eqCoreSLa A B, [Orc.fin
 []]), (A ≠ B, AEx.ret, W1c_eqCoreSLa A B (lb false), [Orc.fin []])]]] (finK Try.prog [ResultVar.tmp 4] [] (AV.sv (lb (decide (A = B))))) = (List.length (List.map coreC A) ≤
 9223372036854775807 → List.length (List.map coreC B) ≤ 9223372036854775807 → (decide ((↑(List.length (List.map coreC A)) : Int) ≠ (↑(List.length (List.map coreC B)) : Int)) = true
 → ObsEq [] [] ∧ AV.sv (lb false) = AV.sv (lb (decide (A = B)))) ∧ (decide ((↑(List.length (List.map coreC A)) : Int) ≠ (↑(List.length (List.map coreC B)) : Int)) = false →
 Tc_eqCoreSLa A B (li 0) = Lc_eqCoreSLa A B 0 ∧ Ic_eqCoreSLa A B (List.length A - 0) (Lc_eqCoreSLa A B 0) ∧ LoopSem Try.prog (loopAt Try.f171 0) (Ic_eqCoreSLa A B) (Yc_eqCoreSLa A
 B) ∧ (A = B → ObsEq [] [] ∧ AV.sv (lb true) = AV.sv (lb (decide (A = B)))) ∧ ((A = B → False) → ObsEq [] [] ∧ AV.sv (lb false) = AV.sv (lb (decide (A = B)))) ∧ True)) := by
 kernel_rfl
theorem c_eqCoreS (A B : List Core) (ih : ∀ x ∈ A, ∀ (y : Core), P_c_eqCore x y)  : P_c_eqCoreS A B := by
  refine CallOK.ofRun wide (run_c_eqCoreS A B) Try.call171 Try.func171 rfl rfl rfl ?_
  with_reducible repeat' (first | apply And.intro | exact flatI | exact flatS | exact rowLens | exact ih | (intro; skip) | apply obsN | apply obsC | apply obA | apply obM | apply obB | apply svA | apply tupA | apply lcA | apply lcS | apply svC | apply liC | apply lbC | apply lsC | apply vIc | apply vBc | apply vSc | apply vLc | apply mapC | apply Hc_eqCoreSLa | apply Ec_eqCoreSLa | apply Sc_eqCoreSLa | apply EW1c_eqCoreSLa)
  all_goals (try simp only [std] at *)
  all_goals (try (first | with_reducible rfl | omega | assumption | (refine (decide_eq_true ?_).symm; assumption) | (refine (decide_eq_false ?_).symm; assumption) | (refine rowGet ?_; (first | omega | (simp only [std]; omega) | grind)) | (refine getC ?_ rfl; (first | omega | (simp only [std]; omega) | grind)) | (refine fill_step ?_ ?_; (first | omega | (simp only [std]; omega) | grind); (first | rfl | exact (Row.eq _).trans rfl)) | (refine fill_init ?_; (first | rfl | exact (Row.eq _).trans rfl)) | grind [snocI, snocS, rowSnoc]))
theorem run_c_eqCore_s (x : Core) (y : Core) : aexec Try.prog (Option.getD (Func.body Try.f63) Code.skip) (entry [] [coreA x, coreA y] 33) [Orc.br [Orc.fin []] [Orc.br [Orc.fin []]
 [Orc.call [Mode.rd, Mode.rd] [] (AV.sv (lb (decide (Core.params x = Core.params y)))), Orc.br [Orc.fin []] [Orc.call [Mode.rd, Mode.rd] [] (AV.sv (lb (decide (Core.datum x =
 Core.datum y)))), Orc.br [Orc.fin []] [Orc.call [Mode.rd, Mode.rd] [] (AV.sv (lb (decide (Core.kids x = Core.kids y)))), Orc.br [Orc.fin []] [Orc.fin []]]]]]] (finK Try.prog
 [ResultVar.tmp 4] [] (AV.sv (lb (decide (x = y))))) = ((decide (Core.kind x ≠ Core.kind y) = true → ObsEq [] [] ∧ AV.sv (lb false) = AV.sv (lb (decide (x = y)))) ∧ (decide
 (Core.kind x ≠ Core.kind y) = false → (decide (Core.number x ≠ Core.number y) = true → ObsEq [] [] ∧ AV.sv (lb false) = AV.sv (lb (decide (x = y)))) ∧ (decide (Core.number x ≠
 Core.number y) = false → P_c_eqIntS (Core.params x) (Core.params y) ∧ ((!decide (Core.params x = Core.params y)) = true → ObsEq [] [] ∧ AV.sv (lb false) = AV.sv (lb (decide (x =
 y)))) ∧ ((!decide (Core.params x = Core.params y)) = false → P_c_eqDatum (Core.datum x) (Core.datum y) ∧ ((!decide (Core.datum x = Core.datum y)) = true → ObsEq [] [] ∧ AV.sv (lb
 false) = AV.sv (lb (decide (x = y)))) ∧ ((!decide (Core.datum x = Core.datum y)) = false → P_c_eqCoreS (Core.kids x) (Core.kids y) ∧ ((!decide (Core.kids x = Core.kids y)) = true
 → ObsEq [] [] ∧ AV.sv (lb false) = AV.sv (lb (decide (x = y)))) ∧ ((!decide (Core.kids x = Core.kids y)) = false → ObsEq [] [] ∧ AV.sv (lb true) = AV.sv (lb (decide (x =
 y))))))))) := by kernel_rfl
theorem c_eqCore_s (x y : Core) (ih : ∀ z ∈ x.kids, ∀ (y : Core), P_c_eqCore z y)  : P_c_eqCore x y := by
  refine CallOK.ofRun wide (run_c_eqCore_s x y) Try.call63 Try.func63 rfl rfl rfl ?_
  simp only [coreExt]
  with_reducible repeat' (first | apply And.intro | exact flatI | exact flatS | exact rowLens | exact ih | (intro; skip) | apply obsN | apply obsC | apply obA | apply obM | apply obB | apply svA | apply tupA | apply lcA | apply lcS | apply svC | apply liC | apply lbC | apply lsC | apply vIc | apply vBc | apply vSc | apply vLc | apply mapC | apply c_eqIntS | apply c_eqDatum | apply c_eqCoreS | apply ih)
  all_goals (try simp only [std] at *)
  all_goals (try (first | with_reducible rfl | omega | assumption | (refine (decide_eq_true ?_).symm; assumption) | (refine (decide_eq_false ?_).symm; assumption) | (refine rowGet ?_; (first | omega | (simp only [std]; omega) | grind)) | (refine getC ?_ rfl; (first | omega | (simp only [std]; omega) | grind)) | (refine fill_step ?_ ?_; (first | omega | (simp only [std]; omega) | grind); (first | rfl | exact (Row.eq _).trans rfl)) | (refine fill_init ?_; (first | rfl | exact (Row.eq _).trans rfl)) | grind [bytes_ext, snocI, snocS, rowSnoc]))
theorem c_eqCore (x : Core) : ∀ (y : Core), P_c_eqCore x y := Core.ind (P := fun x => ∀ (y : Core), P_c_eqCore x y) (fun x ih y => c_eqCore_s x y ih) x
abbrev P_c_eqSyntaxS (A : List Syntax) (B : List Syntax) : Prop := CallOK Try.prog 88 [] [ll (A.map syntaxC), ll (B.map syntaxC)] [] (.sv (lb (decide (A = B))))
abbrev P_c_eqSyntax (x : Syntax) (y : Syntax) : Prop := CallOK Try.prog 57 [] [syntaxA x, syntaxA y] [] (.sv (lb (decide (x = y))))
def Tc_eqSyntaxSLa (A : List Syntax) (B : List Syntax) (x0 : SV) : St := St.mk (regsOf 27 [(0, AV.sv (ll (List.map syntaxC A))), (1, AV.sv (ll (List.map syntaxC B))), (5, AV.sv
 x0)]) [] 0 
def Lc_eqSyntaxSLa (A : List Syntax) (B : List Syntax) (k : Nat) : St := Tc_eqSyntaxSLa A B (li (↑k : Int)) 
def Ic_eqSyntaxSLa (A : List Syntax) (B : List Syntax) : Nat → St → Prop := Head (Lc_eqSyntaxSLa A B) (fun k => k ≤ List.length A ∧ List.length A ≤ 9223372036854775807 ∧
 List.length A = List.length B ∧ List.take k A = List.take k B) fun k => List.length A - k 
def W0c_eqSyntaxSLa (A : List Syntax) (B : List Syntax) : St := St.mk (regsOf 27 []) [] 0 
def W1c_eqSyntaxSLa (A : List Syntax) (B : List Syntax) (x0 : SV) : St := St.mk (regsOf 27 [(4, AV.sv x0)]) [] 0 
def Yc_eqSyntaxSLa (A : List Syntax) (B : List Syntax) : List (Prop × AEx × St) := [(A = B, AEx.exit 0, W0c_eqSyntaxSLa A B), (A ≠ B, AEx.ret, W1c_eqSyntaxSLa A B (lb false))]
theorem Hc_eqSyntaxSLa {A : List Syntax} {B : List Syntax} {k : Nat} {m : Nat} (h : (fun k => k ≤ List.length A ∧ List.length A ≤ 9223372036854775807 ∧ List.length A = List.length
 B ∧ List.take k A = List.take k B) k) (hm : (fun k => List.length A - k) k = m) : Ic_eqSyntaxSLa A B m (Lc_eqSyntaxSLa A B k) := hm ▸ Head.mk h
theorem Ec_eqSyntaxSLa {A : List Syntax} {B : List Syntax} {k : Nat} {x0 : SV} (h0 : x0 = (li (↑k : Int))) : Tc_eqSyntaxSLa A B x0 = Lc_eqSyntaxSLa A B k := by
  rw [h0]
  rfl
theorem EW1c_eqSyntaxSLa {A : List Syntax} {B : List Syntax} {x0 y0 : SV} (h0 : x0 = y0) : W1c_eqSyntaxSLa A B x0 = W1c_eqSyntaxSLa A B y0 := by rw [h0]
theorem run_c_eqSyntaxSLa (A : List Syntax) (B : List Syntax) (k : Nat) : aexec Try.prog (loopAt Try.f88 0) (Lc_eqSyntaxSLa A B k) [Orc.br [Orc.draw [], Orc.cells (syntaxF
 (List.getD A k default)), Orc.cells (syntaxF (List.getD B k default)), Orc.call [Mode.rd, Mode.rd] [] (AV.sv (lb (decide (List.getD A k default = List.getD B k default)))), Orc.br
 [Orc.ghost (Ghost.sel [] [4]), Orc.out 1] [Orc.ghost (Ghost.sel [] [0, 1, 5]), Orc.goto (List.length A - (k + 1)) (Lc_eqSyntaxSLa A B (k + 1))]] [Orc.ghost (Ghost.sel [] []),
 Orc.out 0]] (loopK (Ic_eqSyntaxSLa A B) (Yc_eqSyntaxSLa A B) (List.length A - k)) = (List.length (List.map syntaxC A) ≤ 9223372036854775807 → (decide ((↑k : Int) < (↑(List.length
 (List.map syntaxC A)) : Int)) = true → (0 ≤ (↑k : Int) ∧ (List.map syntaxC A)[Int.toNat (↑k : Int)]? = some (syntaxF (List.getD A k default))) ∧ (0 ≤ (↑k : Int) ∧ (List.map
 syntaxC B)[Int.toNat (↑k : Int)]? = some (syntaxF (List.getD B k default))) ∧ P_c_eqSyntax (List.getD A k default) (List.getD B k default) ∧ ((!decide (List.getD A k default =
 List.getD B k default)) = true → A ≠ B ∧ W1c_eqSyntaxSLa A B (lb false) = W1c_eqSyntaxSLa A B (lb false)) ∧ ((!decide (List.getD A k default = List.getD B k default)) = false →
 rng IntKind.i64 ((↑k : Int) + 1) ∧ List.length A - (k + 1) < List.length A - k ∧ Tc_eqSyntaxSLa A B (li ((↑k : Int) + 1)) = Lc_eqSyntaxSLa A B (k + 1) ∧ Ic_eqSyntaxSLa A B
 (List.length A - (k + 1)) (Lc_eqSyntaxSLa A B (k + 1)))) ∧ (decide ((↑k : Int) < (↑(List.length (List.map syntaxC A)) : Int)) = false → A = B ∧ W0c_eqSyntaxSLa A B =
 W0c_eqSyntaxSLa A B)) := by kernel_rfl
theorem Sc_eqSyntaxSLa (A : List Syntax) (B : List Syntax) (ih : ∀ (x : Syntax), x ∈ A → ∀ (y : Syntax), P_c_eqSyntax x y)  : LoopSem Try.prog (loopAt Try.f88 0) (Ic_eqSyntaxSLa A
 B) (Yc_eqSyntaxSLa A B) := by
  refine LoopSem.ofHead wide fun k h => ⟨_, _, run_c_eqSyntaxSLa A B k, ?_⟩
  with_reducible repeat' (first | apply And.intro | exact flatI | exact flatS | exact rowLens | exact ih | (intro; skip) | apply obsN | apply obsC | apply obA | apply obM | apply obB | apply svA | apply tupA | apply lcA | apply lcS | apply svC | apply liC | apply lbC | apply lsC | apply vIc | apply vBc | apply vSc | apply vLc | apply mapC | apply Hc_eqSyntaxSLa | apply Ec_eqSyntaxSLa | apply EW1c_eqSyntaxSLa | apply ih)
  all_goals (try simp only [std] at *)
  all_goals (try (first | with_reducible rfl | omega | assumption | (refine (decide_eq_true ?_).symm; assumption) | (refine (decide_eq_false ?_).symm; assumption) | (refine rowGet ?_; (first | omega | (simp only [std]; omega) | grind)) | (refine getC ?_ rfl; (first | omega | (simp only [std]; omega) | grind)) | (refine fill_step ?_ ?_; (first | omega | (simp only [std]; omega) | grind); (first | rfl | exact (Row.eq _).trans rfl)) | (refine fill_init ?_; (first | rfl | exact (Row.eq _).trans rfl)) | grind [take_eq, getD_mem', snocI, snocS, rowSnoc]))
theorem run_c_eqSyntaxS (A : List Syntax) (B : List Syntax) : aexec Try.prog (Option.getD (Func.body Try.f88) Code.skip) (entry [] [ll (List.map syntaxC A), ll (List.map syntaxC
 B)] 27) [Orc.br [Orc.fin []] [Orc.ghost (Ghost.sel [] [0, 1, 5]), Orc.loop (List.length A - 0) (Lc_eqSyntaxSLa A B 0) (Ic_eqSyntaxSLa A B) [(A = B, AEx.exit 0, W0c_eqSyntaxSLa A
 B, [Orc.fin []]), (A ≠ B, AEx.ret, W1c_eqSyntaxSLa A B (lb false), [Orc.fin []])]]] (finK Try.prog [ResultVar.tmp 4] [] (AV.sv (lb (decide (A = B))))) = (List.length (List.map
 syntaxC A) ≤ 9223372036854775807 → List.length (List.map syntaxC B) ≤ 9223372036854775807 → (decide ((↑(List.length (List.map syntaxC A)) : Int) ≠ (↑(List.length (List.map syntaxC
 B)) : Int)) = true → ObsEq [] [] ∧ AV.sv (lb false) = AV.sv (lb (decide (A = B)))) ∧ (decide ((↑(List.length (List.map syntaxC A)) : Int) ≠ (↑(List.length (List.map syntaxC B)) :
 Int)) = false → Tc_eqSyntaxSLa A B (li 0) = Lc_eqSyntaxSLa A B 0 ∧ Ic_eqSyntaxSLa A B (List.length A - 0) (Lc_eqSyntaxSLa A B 0) ∧ LoopSem Try.prog (loopAt Try.f88 0)
 (Ic_eqSyntaxSLa A B) (Yc_eqSyntaxSLa A B) ∧ (A = B → ObsEq [] [] ∧ AV.sv (lb true) = AV.sv (lb (decide (A = B)))) ∧ ((A = B → False) → ObsEq [] [] ∧ AV.sv (lb false) = AV.sv (lb
 (decide (A = B)))) ∧ True)) := by kernel_rfl
theorem c_eqSyntaxS (A B : List Syntax) (ih : ∀ x ∈ A, ∀ (y : Syntax), P_c_eqSyntax x y)  : P_c_eqSyntaxS A B := by
  refine CallOK.ofRun wide (run_c_eqSyntaxS A B) Try.call88 Try.func88 rfl rfl rfl ?_
  with_reducible repeat' (first | apply And.intro | exact flatI | exact flatS | exact rowLens | exact ih | (intro; skip) | apply obsN | apply obsC | apply obA | apply obM | apply obB | apply svA | apply tupA | apply lcA | apply lcS | apply svC | apply liC | apply lbC | apply lsC | apply vIc | apply vBc | apply vSc | apply vLc | apply mapC | apply Hc_eqSyntaxSLa | apply Ec_eqSyntaxSLa | apply Sc_eqSyntaxSLa | apply EW1c_eqSyntaxSLa)
  all_goals (try simp only [std] at *)
  all_goals (try (first | with_reducible rfl | omega | assumption | (refine (decide_eq_true ?_).symm; assumption) | (refine (decide_eq_false ?_).symm; assumption) | (refine rowGet ?_; (first | omega | (simp only [std]; omega) | grind)) | (refine getC ?_ rfl; (first | omega | (simp only [std]; omega) | grind)) | (refine fill_step ?_ ?_; (first | omega | (simp only [std]; omega) | grind); (first | rfl | exact (Row.eq _).trans rfl)) | (refine fill_init ?_; (first | rfl | exact (Row.eq _).trans rfl)) | grind [snocI, snocS, rowSnoc]))
theorem run_c_eqSyntax_s (x : Syntax) (y : Syntax) : aexec Try.prog (Option.getD (Func.body Try.f57) Code.skip) (entry [] [syntaxA x, syntaxA y] 32) [Orc.br [Orc.fin []] [Orc.br
 [Orc.fin []] [Orc.br [Orc.fin []] [Orc.call [Mode.rd, Mode.rd] [] (AV.sv (lb (decide (Syntax.scopes x = Syntax.scopes y)))), Orc.br [Orc.fin []] [Orc.call [Mode.rd, Mode.rd] []
 (AV.sv (lb (decide (Syntax.items x = Syntax.items y)))), Orc.br [Orc.fin []] [Orc.fin []]]]]]] (finK Try.prog [ResultVar.tmp 4] [] (AV.sv (lb (decide (x = y))))) = ((decide
 (Syntax.kind x ≠ Syntax.kind y) = true → ObsEq [] [] ∧ AV.sv (lb false) = AV.sv (lb (decide (x = y)))) ∧ (decide (Syntax.kind x ≠ Syntax.kind y) = false → (decide (Syntax.number x
 ≠ Syntax.number y) = true → ObsEq [] [] ∧ AV.sv (lb false) = AV.sv (lb (decide (x = y)))) ∧ (decide (Syntax.number x ≠ Syntax.number y) = false → (decide (Array.toList
 (ByteArray.data (Syntax.text x)) ≠ Array.toList (ByteArray.data (Syntax.text y))) = true → ObsEq [] [] ∧ AV.sv (lb false) = AV.sv (lb (decide (x = y)))) ∧ (decide (Array.toList
 (ByteArray.data (Syntax.text x)) ≠ Array.toList (ByteArray.data (Syntax.text y))) = false → P_c_eqIntS (Syntax.scopes x) (Syntax.scopes y) ∧ ((!decide (Syntax.scopes x =
 Syntax.scopes y)) = true → ObsEq [] [] ∧ AV.sv (lb false) = AV.sv (lb (decide (x = y)))) ∧ ((!decide (Syntax.scopes x = Syntax.scopes y)) = false → P_c_eqSyntaxS (Syntax.items x)
 (Syntax.items y) ∧ ((!decide (Syntax.items x = Syntax.items y)) = true → ObsEq [] [] ∧ AV.sv (lb false) = AV.sv (lb (decide (x = y)))) ∧ ((!decide (Syntax.items x = Syntax.items
 y)) = false → ObsEq [] [] ∧ AV.sv (lb true) = AV.sv (lb (decide (x = y))))))))) := by kernel_rfl
theorem c_eqSyntax_s (x y : Syntax) (ih : ∀ z ∈ x.items, ∀ (y : Syntax), P_c_eqSyntax z y)  : P_c_eqSyntax x y := by
  refine CallOK.ofRun wide (run_c_eqSyntax_s x y) Try.call57 Try.func57 rfl rfl rfl ?_
  simp only [syntaxExt]
  with_reducible repeat' (first | apply And.intro | exact flatI | exact flatS | exact rowLens | exact ih | (intro; skip) | apply obsN | apply obsC | apply obA | apply obM | apply obB | apply svA | apply tupA | apply lcA | apply lcS | apply svC | apply liC | apply lbC | apply lsC | apply vIc | apply vBc | apply vSc | apply vLc | apply mapC | apply c_eqIntS | apply c_eqSyntaxS | apply ih)
  all_goals (try simp only [std] at *)
  all_goals (try (first | with_reducible rfl | omega | assumption | (refine (decide_eq_true ?_).symm; assumption) | (refine (decide_eq_false ?_).symm; assumption) | (refine rowGet ?_; (first | omega | (simp only [std]; omega) | grind)) | (refine getC ?_ rfl; (first | omega | (simp only [std]; omega) | grind)) | (refine fill_step ?_ ?_; (first | omega | (simp only [std]; omega) | grind); (first | rfl | exact (Row.eq _).trans rfl)) | (refine fill_init ?_; (first | rfl | exact (Row.eq _).trans rfl)) | grind [bytes_ext, snocI, snocS, rowSnoc]))
theorem c_eqSyntax (x : Syntax) : ∀ (y : Syntax), P_c_eqSyntax x y := Syntax.ind (P := fun x => ∀ (y : Syntax), P_c_eqSyntax x y) (fun x ih y => c_eqSyntax_s x y ih) x
abbrev P_c_eqBinding (x : Binding) (y : Binding) : Prop := CallOK Try.prog 215 [] [bindingA x, bindingA y] [] (.sv (lb (decide (x = y))))
theorem run_c_eqBinding (x : Binding) (y : Binding) : aexec Try.prog (Option.getD (Func.body Try.f215) Code.skip) (entry [] [bindingA x, bindingA y] 26) [Orc.br [Orc.fin []]
 [Orc.call [Mode.rd, Mode.rd] [] (AV.sv (lb (decide (Binding.scopes x = Binding.scopes y)))), Orc.br [Orc.fin []] [Orc.br [Orc.fin []] [Orc.br [Orc.fin []] [Orc.fin []]]]]] (finK
 Try.prog [ResultVar.tmp 4] [] (AV.sv (lb (decide (x = y))))) = ((decide (Array.toList (ByteArray.data (Binding.text x)) ≠ Array.toList (ByteArray.data (Binding.text y))) = true →
 ObsEq [] [] ∧ AV.sv (lb false) = AV.sv (lb (decide (x = y)))) ∧ (decide (Array.toList (ByteArray.data (Binding.text x)) ≠ Array.toList (ByteArray.data (Binding.text y))) = false →
 P_c_eqIntS (Binding.scopes x) (Binding.scopes y) ∧ ((!decide (Binding.scopes x = Binding.scopes y)) = true → ObsEq [] [] ∧ AV.sv (lb false) = AV.sv (lb (decide (x = y)))) ∧
 ((!decide (Binding.scopes x = Binding.scopes y)) = false → (decide (Binding.kind x ≠ Binding.kind y) = true → ObsEq [] [] ∧ AV.sv (lb false) = AV.sv (lb (decide (x = y)))) ∧
 (decide (Binding.kind x ≠ Binding.kind y) = false → (decide (Binding.number x ≠ Binding.number y) = true → ObsEq [] [] ∧ AV.sv (lb false) = AV.sv (lb (decide (x = y)))) ∧ (decide
 (Binding.number x ≠ Binding.number y) = false → ObsEq [] [] ∧ AV.sv (lb true) = AV.sv (lb (decide (x = y)))))))) := by kernel_rfl
theorem c_eqBinding (x y : Binding)  : P_c_eqBinding x y := by
  refine CallOK.ofRun wide (run_c_eqBinding x y) Try.call215 Try.func215 rfl rfl rfl ?_
  simp only [bindingExt]
  with_reducible repeat' (first | apply And.intro | exact flatI | exact flatS | exact rowLens | (intro; skip) | apply obsN | apply obsC | apply obA | apply obM | apply obB | apply svA | apply tupA | apply lcA | apply lcS | apply svC | apply liC | apply lbC | apply lsC | apply vIc | apply vBc | apply vSc | apply vLc | apply mapC | apply c_eqIntS)
  all_goals (try simp only [std] at *)
  all_goals (try (first | with_reducible rfl | omega | assumption | (refine (decide_eq_true ?_).symm; assumption) | (refine (decide_eq_false ?_).symm; assumption) | (refine rowGet ?_; (first | omega | (simp only [std]; omega) | grind)) | (refine getC ?_ rfl; (first | omega | (simp only [std]; omega) | grind)) | (refine fill_step ?_ ?_; (first | omega | (simp only [std]; omega) | grind); (first | rfl | exact (Row.eq _).trans rfl)) | (refine fill_init ?_; (first | rfl | exact (Row.eq _).trans rfl)) | grind [bytes_ext, snocI, snocS, rowSnoc]))
abbrev P_c_eqBindingS (A : List Binding) (B : List Binding) : Prop := CallOK Try.prog 107 [] [ll (A.map bindingC), ll (B.map bindingC)] [] (.sv (lb (decide (A = B))))
def Tc_eqBindingSLa (A : List Binding) (B : List Binding) (x0 : SV) : St := St.mk (regsOf 27 [(0, AV.sv (ll (List.map bindingC A))), (1, AV.sv (ll (List.map bindingC B))), (5,
 AV.sv x0)]) [] 0 
def Lc_eqBindingSLa (A : List Binding) (B : List Binding) (k : Nat) : St := Tc_eqBindingSLa A B (li (↑k : Int)) 
def Ic_eqBindingSLa (A : List Binding) (B : List Binding) : Nat → St → Prop := Head (Lc_eqBindingSLa A B) (fun k => k ≤ List.length A ∧ List.length A ≤ 9223372036854775807 ∧
 List.length A = List.length B ∧ List.take k A = List.take k B) fun k => List.length A - k 
def W0c_eqBindingSLa (A : List Binding) (B : List Binding) : St := St.mk (regsOf 27 []) [] 0 
def W1c_eqBindingSLa (A : List Binding) (B : List Binding) (x0 : SV) : St := St.mk (regsOf 27 [(4, AV.sv x0)]) [] 0 
def Yc_eqBindingSLa (A : List Binding) (B : List Binding) : List (Prop × AEx × St) := [(A = B, AEx.exit 0, W0c_eqBindingSLa A B), (A ≠ B, AEx.ret, W1c_eqBindingSLa A B (lb false))]
theorem Hc_eqBindingSLa {A : List Binding} {B : List Binding} {k : Nat} {m : Nat} (h : (fun k => k ≤ List.length A ∧ List.length A ≤ 9223372036854775807 ∧ List.length A =
 List.length B ∧ List.take k A = List.take k B) k) (hm : (fun k => List.length A - k) k = m) : Ic_eqBindingSLa A B m (Lc_eqBindingSLa A B k) := hm ▸ Head.mk h
theorem Ec_eqBindingSLa {A : List Binding} {B : List Binding} {k : Nat} {x0 : SV} (h0 : x0 = (li (↑k : Int))) : Tc_eqBindingSLa A B x0 = Lc_eqBindingSLa A B k := by
  rw [h0]
  rfl
theorem EW1c_eqBindingSLa {A : List Binding} {B : List Binding} {x0 y0 : SV} (h0 : x0 = y0) : W1c_eqBindingSLa A B x0 = W1c_eqBindingSLa A B y0 := by rw [h0]
theorem run_c_eqBindingSLa (A : List Binding) (B : List Binding) (k : Nat) : aexec Try.prog (loopAt Try.f107 0) (Lc_eqBindingSLa A B k) [Orc.br [Orc.draw [], Orc.cells (bindingF
 (List.getD A k default)), Orc.cells (bindingF (List.getD B k default)), Orc.call [Mode.rd, Mode.rd] [] (AV.sv (lb (decide (List.getD A k default = List.getD B k default)))),
 Orc.br [Orc.ghost (Ghost.sel [] [4]), Orc.out 1] [Orc.ghost (Ghost.sel [] [0, 1, 5]), Orc.goto (List.length A - (k + 1)) (Lc_eqBindingSLa A B (k + 1))]] [Orc.ghost (Ghost.sel []
 []), Orc.out 0]] (loopK (Ic_eqBindingSLa A B) (Yc_eqBindingSLa A B) (List.length A - k)) = (List.length (List.map bindingC A) ≤ 9223372036854775807 → (decide ((↑k : Int) <
 (↑(List.length (List.map bindingC A)) : Int)) = true → (0 ≤ (↑k : Int) ∧ (List.map bindingC A)[Int.toNat (↑k : Int)]? = some (bindingF (List.getD A k default))) ∧ (0 ≤ (↑k : Int)
 ∧ (List.map bindingC B)[Int.toNat (↑k : Int)]? = some (bindingF (List.getD B k default))) ∧ P_c_eqBinding (List.getD A k default) (List.getD B k default) ∧ ((!decide (List.getD A
 k default = List.getD B k default)) = true → A ≠ B ∧ W1c_eqBindingSLa A B (lb false) = W1c_eqBindingSLa A B (lb false)) ∧ ((!decide (List.getD A k default = List.getD B k
 default)) = false → rng IntKind.i64 ((↑k : Int) + 1) ∧ List.length A - (k + 1) < List.length A - k ∧ Tc_eqBindingSLa A B (li ((↑k : Int) + 1)) = Lc_eqBindingSLa A B (k + 1) ∧
 Ic_eqBindingSLa A B (List.length A - (k + 1)) (Lc_eqBindingSLa A B (k + 1)))) ∧ (decide ((↑k : Int) < (↑(List.length (List.map bindingC A)) : Int)) = false → A = B ∧
 W0c_eqBindingSLa A B = W0c_eqBindingSLa A B)) := by kernel_rfl
theorem Sc_eqBindingSLa (A : List Binding) (B : List Binding)  : LoopSem Try.prog (loopAt Try.f107 0) (Ic_eqBindingSLa A B) (Yc_eqBindingSLa A B) := by
  refine LoopSem.ofHead wide fun k h => ⟨_, _, run_c_eqBindingSLa A B k, ?_⟩
  with_reducible repeat' (first | apply And.intro | exact flatI | exact flatS | exact rowLens | (intro; skip) | apply obsN | apply obsC | apply obA | apply obM | apply obB | apply svA | apply tupA | apply lcA | apply lcS | apply svC | apply liC | apply lbC | apply lsC | apply vIc | apply vBc | apply vSc | apply vLc | apply mapC | apply Hc_eqBindingSLa | apply Ec_eqBindingSLa | apply EW1c_eqBindingSLa | apply c_eqBinding)
  all_goals (try simp only [std] at *)
  all_goals (try (first | with_reducible rfl | omega | assumption | (refine (decide_eq_true ?_).symm; assumption) | (refine (decide_eq_false ?_).symm; assumption) | (refine rowGet ?_; (first | omega | (simp only [std]; omega) | grind)) | (refine getC ?_ rfl; (first | omega | (simp only [std]; omega) | grind)) | (refine fill_step ?_ ?_; (first | omega | (simp only [std]; omega) | grind); (first | rfl | exact (Row.eq _).trans rfl)) | (refine fill_init ?_; (first | rfl | exact (Row.eq _).trans rfl)) | grind [take_eq, getD_mem', snocI, snocS, rowSnoc]))
theorem run_c_eqBindingS (A : List Binding) (B : List Binding) : aexec Try.prog (Option.getD (Func.body Try.f107) Code.skip) (entry [] [ll (List.map bindingC A), ll (List.map
 bindingC B)] 27) [Orc.br [Orc.fin []] [Orc.ghost (Ghost.sel [] [0, 1, 5]), Orc.loop (List.length A - 0) (Lc_eqBindingSLa A B 0) (Ic_eqBindingSLa A B) [(A = B, AEx.exit 0,
 W0c_eqBindingSLa A B, [Orc.fin []]), (A ≠ B, AEx.ret, W1c_eqBindingSLa A B (lb false), [Orc.fin []])]]] (finK Try.prog [ResultVar.tmp 4] [] (AV.sv (lb (decide (A = B))))) =
 (List.length (List.map bindingC A) ≤ 9223372036854775807 → List.length (List.map bindingC B) ≤ 9223372036854775807 → (decide ((↑(List.length (List.map bindingC A)) : Int) ≠
 (↑(List.length (List.map bindingC B)) : Int)) = true → ObsEq [] [] ∧ AV.sv (lb false) = AV.sv (lb (decide (A = B)))) ∧ (decide ((↑(List.length (List.map bindingC A)) : Int) ≠
 (↑(List.length (List.map bindingC B)) : Int)) = false → Tc_eqBindingSLa A B (li 0) = Lc_eqBindingSLa A B 0 ∧ Ic_eqBindingSLa A B (List.length A - 0) (Lc_eqBindingSLa A B 0) ∧
 LoopSem Try.prog (loopAt Try.f107 0) (Ic_eqBindingSLa A B) (Yc_eqBindingSLa A B) ∧ (A = B → ObsEq [] [] ∧ AV.sv (lb true) = AV.sv (lb (decide (A = B)))) ∧ ((A = B → False) → ObsEq
 [] [] ∧ AV.sv (lb false) = AV.sv (lb (decide (A = B)))) ∧ True)) := by kernel_rfl
theorem c_eqBindingS (A B : List Binding)  : P_c_eqBindingS A B := by
  refine CallOK.ofRun wide (run_c_eqBindingS A B) Try.call107 Try.func107 rfl rfl rfl ?_
  with_reducible repeat' (first | apply And.intro | exact flatI | exact flatS | exact rowLens | (intro; skip) | apply obsN | apply obsC | apply obA | apply obM | apply obB | apply svA | apply tupA | apply lcA | apply lcS | apply svC | apply liC | apply lbC | apply lsC | apply vIc | apply vBc | apply vSc | apply vLc | apply mapC | apply Hc_eqBindingSLa | apply Ec_eqBindingSLa | apply Sc_eqBindingSLa | apply EW1c_eqBindingSLa | apply c_eqBinding)
  all_goals (try simp only [std] at *)
  all_goals (try (first | with_reducible rfl | omega | assumption | (refine (decide_eq_true ?_).symm; assumption) | (refine (decide_eq_false ?_).symm; assumption) | (refine rowGet ?_; (first | omega | (simp only [std]; omega) | grind)) | (refine getC ?_ rfl; (first | omega | (simp only [std]; omega) | grind)) | (refine fill_step ?_ ?_; (first | omega | (simp only [std]; omega) | grind); (first | rfl | exact (Row.eq _).trans rfl)) | (refine fill_init ?_; (first | rfl | exact (Row.eq _).trans rfl)) | grind [snocI, snocS, rowSnoc]))
abbrev P_c_eqRules (x : Rules) (y : Rules) : Prop := CallOK Try.prog 97 [] [rulesA x, rulesA y] [] (.sv (lb (decide (x = y))))
theorem run_c_eqRules (x : Rules) (y : Rules) : aexec Try.prog (Option.getD (Func.body Try.f97) Code.skip) (entry [] [rulesA x, rulesA y] 23) [Orc.call [Mode.rd, Mode.rd] [] (AV.sv
 (lb (decide (Rules.literals x = Rules.literals y)))), Orc.br [Orc.fin []] [Orc.call [Mode.rd, Mode.rd] [] (AV.sv (lb (decide (Rules.patterns x = Rules.patterns y)))), Orc.br
 [Orc.fin []] [Orc.call [Mode.rd, Mode.rd] [] (AV.sv (lb (decide (Rules.templates x = Rules.templates y)))), Orc.br [Orc.fin []] [Orc.fin []]]]] (finK Try.prog [ResultVar.tmp 4] []
 (AV.sv (lb (decide (x = y))))) = (P_c_eqSyntaxS (Rules.literals x) (Rules.literals y) ∧ ((!decide (Rules.literals x = Rules.literals y)) = true → ObsEq [] [] ∧ AV.sv (lb false) =
 AV.sv (lb (decide (x = y)))) ∧ ((!decide (Rules.literals x = Rules.literals y)) = false → P_c_eqSyntaxS (Rules.patterns x) (Rules.patterns y) ∧ ((!decide (Rules.patterns x =
 Rules.patterns y)) = true → ObsEq [] [] ∧ AV.sv (lb false) = AV.sv (lb (decide (x = y)))) ∧ ((!decide (Rules.patterns x = Rules.patterns y)) = false → P_c_eqSyntaxS
 (Rules.templates x) (Rules.templates y) ∧ ((!decide (Rules.templates x = Rules.templates y)) = true → ObsEq [] [] ∧ AV.sv (lb false) = AV.sv (lb (decide (x = y)))) ∧ ((!decide
 (Rules.templates x = Rules.templates y)) = false → ObsEq [] [] ∧ AV.sv (lb true) = AV.sv (lb (decide (x = y))))))) := by kernel_rfl
theorem c_eqRules (x y : Rules)  : P_c_eqRules x y := by
  refine CallOK.ofRun wide (run_c_eqRules x y) Try.call97 Try.func97 rfl rfl rfl ?_
  simp only [rulesExt]
  with_reducible repeat' (first | apply And.intro | exact flatI | exact flatS | exact rowLens | (intro; skip) | apply obsN | apply obsC | apply obA | apply obM | apply obB | apply svA | apply tupA | apply lcA | apply lcS | apply svC | apply liC | apply lbC | apply lsC | apply vIc | apply vBc | apply vSc | apply vLc | apply mapC | apply c_eqSyntaxS | apply c_eqSyntax)
  all_goals (try simp only [std] at *)
  all_goals (try (first | with_reducible rfl | omega | assumption | (refine (decide_eq_true ?_).symm; assumption) | (refine (decide_eq_false ?_).symm; assumption) | (refine rowGet ?_; (first | omega | (simp only [std]; omega) | grind)) | (refine getC ?_ rfl; (first | omega | (simp only [std]; omega) | grind)) | (refine fill_step ?_ ?_; (first | omega | (simp only [std]; omega) | grind); (first | rfl | exact (Row.eq _).trans rfl)) | (refine fill_init ?_; (first | rfl | exact (Row.eq _).trans rfl)) | grind [bytes_ext, snocI, snocS, rowSnoc]))
abbrev P_c_eqRulesS (A : List Rules) (B : List Rules) : Prop := CallOK Try.prog 108 [] [ll (A.map rulesC), ll (B.map rulesC)] [] (.sv (lb (decide (A = B))))
def Tc_eqRulesSLa (A : List Rules) (B : List Rules) (x0 : SV) : St := St.mk (regsOf 27 [(0, AV.sv (ll (List.map rulesC A))), (1, AV.sv (ll (List.map rulesC B))), (5, AV.sv x0)]) []
 0 
def Lc_eqRulesSLa (A : List Rules) (B : List Rules) (k : Nat) : St := Tc_eqRulesSLa A B (li (↑k : Int)) 
def Ic_eqRulesSLa (A : List Rules) (B : List Rules) : Nat → St → Prop := Head (Lc_eqRulesSLa A B) (fun k => k ≤ List.length A ∧ List.length A ≤ 9223372036854775807 ∧ List.length A
 = List.length B ∧ List.take k A = List.take k B) fun k => List.length A - k 
def W0c_eqRulesSLa (A : List Rules) (B : List Rules) : St := St.mk (regsOf 27 []) [] 0 
def W1c_eqRulesSLa (A : List Rules) (B : List Rules) (x0 : SV) : St := St.mk (regsOf 27 [(4, AV.sv x0)]) [] 0 
def Yc_eqRulesSLa (A : List Rules) (B : List Rules) : List (Prop × AEx × St) := [(A = B, AEx.exit 0, W0c_eqRulesSLa A B), (A ≠ B, AEx.ret, W1c_eqRulesSLa A B (lb false))]
theorem Hc_eqRulesSLa {A : List Rules} {B : List Rules} {k : Nat} {m : Nat} (h : (fun k => k ≤ List.length A ∧ List.length A ≤ 9223372036854775807 ∧ List.length A = List.length B ∧
 List.take k A = List.take k B) k) (hm : (fun k => List.length A - k) k = m) : Ic_eqRulesSLa A B m (Lc_eqRulesSLa A B k) := hm ▸ Head.mk h
theorem Ec_eqRulesSLa {A : List Rules} {B : List Rules} {k : Nat} {x0 : SV} (h0 : x0 = (li (↑k : Int))) : Tc_eqRulesSLa A B x0 = Lc_eqRulesSLa A B k := by
  rw [h0]
  rfl
theorem EW1c_eqRulesSLa {A : List Rules} {B : List Rules} {x0 y0 : SV} (h0 : x0 = y0) : W1c_eqRulesSLa A B x0 = W1c_eqRulesSLa A B y0 := by rw [h0]
theorem run_c_eqRulesSLa (A : List Rules) (B : List Rules) (k : Nat) : aexec Try.prog (loopAt Try.f108 0) (Lc_eqRulesSLa A B k) [Orc.br [Orc.draw [], Orc.cells (rulesF (List.getD A
 k default)), Orc.cells (rulesF (List.getD B k default)), Orc.call [Mode.rd, Mode.rd] [] (AV.sv (lb (decide (List.getD A k default = List.getD B k default)))), Orc.br [Orc.ghost
 (Ghost.sel [] [4]), Orc.out 1] [Orc.ghost (Ghost.sel [] [0, 1, 5]), Orc.goto (List.length A - (k + 1)) (Lc_eqRulesSLa A B (k + 1))]] [Orc.ghost (Ghost.sel [] []), Orc.out 0]]
 (loopK (Ic_eqRulesSLa A B) (Yc_eqRulesSLa A B) (List.length A - k)) = (List.length (List.map rulesC A) ≤ 9223372036854775807 → (decide ((↑k : Int) < (↑(List.length (List.map
 rulesC A)) : Int)) = true → (0 ≤ (↑k : Int) ∧ (List.map rulesC A)[Int.toNat (↑k : Int)]? = some (rulesF (List.getD A k default))) ∧ (0 ≤ (↑k : Int) ∧ (List.map rulesC B)[Int.toNat
 (↑k : Int)]? = some (rulesF (List.getD B k default))) ∧ P_c_eqRules (List.getD A k default) (List.getD B k default) ∧ ((!decide (List.getD A k default = List.getD B k default)) =
 true → A ≠ B ∧ W1c_eqRulesSLa A B (lb false) = W1c_eqRulesSLa A B (lb false)) ∧ ((!decide (List.getD A k default = List.getD B k default)) = false → rng IntKind.i64 ((↑k : Int) +
 1) ∧ List.length A - (k + 1) < List.length A - k ∧ Tc_eqRulesSLa A B (li ((↑k : Int) + 1)) = Lc_eqRulesSLa A B (k + 1) ∧ Ic_eqRulesSLa A B (List.length A - (k + 1)) (Lc_eqRulesSLa
 A B (k + 1)))) ∧ (decide ((↑k : Int) < (↑(List.length (List.map rulesC A)) : Int)) = false → A = B ∧ W0c_eqRulesSLa A B = W0c_eqRulesSLa A B)) := by kernel_rfl
theorem Sc_eqRulesSLa (A : List Rules) (B : List Rules)  : LoopSem Try.prog (loopAt Try.f108 0) (Ic_eqRulesSLa A B) (Yc_eqRulesSLa A B) := by
  refine LoopSem.ofHead wide fun k h => ⟨_, _, run_c_eqRulesSLa A B k, ?_⟩
  with_reducible repeat' (first | apply And.intro | exact flatI | exact flatS | exact rowLens | (intro; skip) | apply obsN | apply obsC | apply obA | apply obM | apply obB | apply svA | apply tupA | apply lcA | apply lcS | apply svC | apply liC | apply lbC | apply lsC | apply vIc | apply vBc | apply vSc | apply vLc | apply mapC | apply Hc_eqRulesSLa | apply Ec_eqRulesSLa | apply EW1c_eqRulesSLa | apply c_eqRules)
  all_goals (try simp only [std] at *)
  all_goals (try (first | with_reducible rfl | omega | assumption | (refine (decide_eq_true ?_).symm; assumption) | (refine (decide_eq_false ?_).symm; assumption) | (refine rowGet ?_; (first | omega | (simp only [std]; omega) | grind)) | (refine getC ?_ rfl; (first | omega | (simp only [std]; omega) | grind)) | (refine fill_step ?_ ?_; (first | omega | (simp only [std]; omega) | grind); (first | rfl | exact (Row.eq _).trans rfl)) | (refine fill_init ?_; (first | rfl | exact (Row.eq _).trans rfl)) | grind [take_eq, getD_mem', snocI, snocS, rowSnoc]))
theorem run_c_eqRulesS (A : List Rules) (B : List Rules) : aexec Try.prog (Option.getD (Func.body Try.f108) Code.skip) (entry [] [ll (List.map rulesC A), ll (List.map rulesC B)]
 27) [Orc.br [Orc.fin []] [Orc.ghost (Ghost.sel [] [0, 1, 5]), Orc.loop (List.length A - 0) (Lc_eqRulesSLa A B 0) (Ic_eqRulesSLa A B) [(A = B, AEx.exit 0, W0c_eqRulesSLa A B,
 [Orc.fin []]), (A ≠ B, AEx.ret, W1c_eqRulesSLa A B (lb false), [Orc.fin []])]]] (finK Try.prog [ResultVar.tmp 4] [] (AV.sv (lb (decide (A = B))))) = (List.length (List.map rulesC
 A) ≤ 9223372036854775807 → List.length (List.map rulesC B) ≤ 9223372036854775807 → (decide ((↑(List.length (List.map rulesC A)) : Int) ≠ (↑(List.length (List.map rulesC B)) :
 Int)) = true → ObsEq [] [] ∧ AV.sv (lb false) = AV.sv (lb (decide (A = B)))) ∧ (decide ((↑(List.length (List.map rulesC A)) : Int) ≠ (↑(List.length (List.map rulesC B)) : Int)) =
 false → Tc_eqRulesSLa A B (li 0) = Lc_eqRulesSLa A B 0 ∧ Ic_eqRulesSLa A B (List.length A - 0) (Lc_eqRulesSLa A B 0) ∧ LoopSem Try.prog (loopAt Try.f108 0) (Ic_eqRulesSLa A B)
 (Yc_eqRulesSLa A B) ∧ (A = B → ObsEq [] [] ∧ AV.sv (lb true) = AV.sv (lb (decide (A = B)))) ∧ ((A = B → False) → ObsEq [] [] ∧ AV.sv (lb false) = AV.sv (lb (decide (A = B)))) ∧
 True)) := by kernel_rfl
theorem c_eqRulesS (A B : List Rules)  : P_c_eqRulesS A B := by
  refine CallOK.ofRun wide (run_c_eqRulesS A B) Try.call108 Try.func108 rfl rfl rfl ?_
  with_reducible repeat' (first | apply And.intro | exact flatI | exact flatS | exact rowLens | (intro; skip) | apply obsN | apply obsC | apply obA | apply obM | apply obB | apply svA | apply tupA | apply lcA | apply lcS | apply svC | apply liC | apply lbC | apply lsC | apply vIc | apply vBc | apply vSc | apply vLc | apply mapC | apply Hc_eqRulesSLa | apply Ec_eqRulesSLa | apply Sc_eqRulesSLa | apply EW1c_eqRulesSLa | apply c_eqRules)
  all_goals (try simp only [std] at *)
  all_goals (try (first | with_reducible rfl | omega | assumption | (refine (decide_eq_true ?_).symm; assumption) | (refine (decide_eq_false ?_).symm; assumption) | (refine rowGet ?_; (first | omega | (simp only [std]; omega) | grind)) | (refine getC ?_ rfl; (first | omega | (simp only [std]; omega) | grind)) | (refine fill_step ?_ ?_; (first | omega | (simp only [std]; omega) | grind); (first | rfl | exact (Row.eq _).trans rfl)) | (refine fill_init ?_; (first | rfl | exact (Row.eq _).trans rfl)) | grind [snocI, snocS, rowSnoc]))
abbrev P_c_eqExpander (x : Expander) (y : Expander) : Prop := CallOK Try.prog 21 [] [expanderA x, expanderA y] [] (.sv (lb (decide (x = y))))
theorem run_c_eqExpander (x : Expander) (y : Expander) : aexec Try.prog (Option.getD (Func.body Try.f21) Code.skip) (entry [] [expanderA x, expanderA y] 32) [Orc.call [Mode.rd,
 Mode.rd] [] (AV.sv (lb (decide (Expander.bindings x = Expander.bindings y)))), Orc.br [Orc.fin []] [Orc.call [Mode.rd, Mode.rd] [] (AV.sv (lb (decide (Expander.macros x =
 Expander.macros y)))), Orc.br [Orc.fin []] [Orc.br [Orc.fin []] [Orc.br [Orc.fin []] [Orc.br [Orc.fin []] [Orc.fin []]]]]]] (finK Try.prog [ResultVar.tmp 4] [] (AV.sv (lb (decide
 (x = y))))) = (P_c_eqBindingS (Expander.bindings x) (Expander.bindings y) ∧ ((!decide (Expander.bindings x = Expander.bindings y)) = true → ObsEq [] [] ∧ AV.sv (lb false) = AV.sv
 (lb (decide (x = y)))) ∧ ((!decide (Expander.bindings x = Expander.bindings y)) = false → P_c_eqRulesS (Expander.macros x) (Expander.macros y) ∧ ((!decide (Expander.macros x =
 Expander.macros y)) = true → ObsEq [] [] ∧ AV.sv (lb false) = AV.sv (lb (decide (x = y)))) ∧ ((!decide (Expander.macros x = Expander.macros y)) = false → (decide (Expander.scope x
 ≠ Expander.scope y) = true → ObsEq [] [] ∧ AV.sv (lb false) = AV.sv (lb (decide (x = y)))) ∧ (decide (Expander.scope x ≠ Expander.scope y) = false → (decide (Expander.vari x ≠
 Expander.vari y) = true → ObsEq [] [] ∧ AV.sv (lb false) = AV.sv (lb (decide (x = y)))) ∧ (decide (Expander.vari x ≠ Expander.vari y) = false → (decide (Expander.steps x ≠
 Expander.steps y) = true → ObsEq [] [] ∧ AV.sv (lb false) = AV.sv (lb (decide (x = y)))) ∧ (decide (Expander.steps x ≠ Expander.steps y) = false → ObsEq [] [] ∧ AV.sv (lb true) =
 AV.sv (lb (decide (x = y))))))))) := by kernel_rfl
theorem c_eqExpander (x y : Expander)  : P_c_eqExpander x y := by
  refine CallOK.ofRun wide (run_c_eqExpander x y) Try.call21 Try.func21 rfl rfl rfl ?_
  simp only [expanderExt]
  with_reducible repeat' (first | apply And.intro | exact flatI | exact flatS | exact rowLens | (intro; skip) | apply obsN | apply obsC | apply obA | apply obM | apply obB | apply svA | apply tupA | apply lcA | apply lcS | apply svC | apply liC | apply lbC | apply lsC | apply vIc | apply vBc | apply vSc | apply vLc | apply mapC | apply c_eqBindingS | apply c_eqRulesS)
  all_goals (try simp only [std] at *)
  all_goals (try (first | with_reducible rfl | omega | assumption | (refine (decide_eq_true ?_).symm; assumption) | (refine (decide_eq_false ?_).symm; assumption) | (refine rowGet ?_; (first | omega | (simp only [std]; omega) | grind)) | (refine getC ?_ rfl; (first | omega | (simp only [std]; omega) | grind)) | (refine fill_step ?_ ?_; (first | omega | (simp only [std]; omega) | grind); (first | rfl | exact (Row.eq _).trans rfl)) | (refine fill_init ?_; (first | rfl | exact (Row.eq _).trans rfl)) | grind [bytes_ext, snocI, snocS, rowSnoc]))
abbrev P_c_eqExport (x : Export) (y : Export) : Prop := CallOK Try.prog 70 [] [exportA x, exportA y] [] (.sv (lb (decide (x = y))))
theorem run_c_eqExport (x : Export) (y : Export) : aexec Try.prog (Option.getD (Func.body Try.f70) Code.skip) (entry [] [exportA x, exportA y] 25) [Orc.br [Orc.fin []] [Orc.br
 [Orc.fin []] [Orc.br [Orc.fin []] [Orc.br [Orc.fin []] [Orc.fin []]]]]] (finK Try.prog [ResultVar.tmp 4] [] (AV.sv (lb (decide (x = y))))) = ((decide (Array.toList (ByteArray.data
 (Export.modul x)) ≠ Array.toList (ByteArray.data (Export.modul y))) = true → ObsEq [] [] ∧ AV.sv (lb false) = AV.sv (lb (decide (x = y)))) ∧ (decide (Array.toList (ByteArray.data
 (Export.modul x)) ≠ Array.toList (ByteArray.data (Export.modul y))) = false → (decide (Array.toList (ByteArray.data (Export.text x)) ≠ Array.toList (ByteArray.data (Export.text
 y))) = true → ObsEq [] [] ∧ AV.sv (lb false) = AV.sv (lb (decide (x = y)))) ∧ (decide (Array.toList (ByteArray.data (Export.text x)) ≠ Array.toList (ByteArray.data (Export.text
 y))) = false → (decide (Export.kind x ≠ Export.kind y) = true → ObsEq [] [] ∧ AV.sv (lb false) = AV.sv (lb (decide (x = y)))) ∧ (decide (Export.kind x ≠ Export.kind y) = false →
 (decide (Export.number x ≠ Export.number y) = true → ObsEq [] [] ∧ AV.sv (lb false) = AV.sv (lb (decide (x = y)))) ∧ (decide (Export.number x ≠ Export.number y) = false → ObsEq []
 [] ∧ AV.sv (lb true) = AV.sv (lb (decide (x = y)))))))) := by kernel_rfl
theorem c_eqExport (x y : Export)  : P_c_eqExport x y := by
  refine CallOK.ofRun wide (run_c_eqExport x y) Try.call70 Try.func70 rfl rfl rfl ?_
  simp only [exportExt]
  with_reducible repeat' (first | apply And.intro | exact flatI | exact flatS | exact rowLens | (intro; skip) | apply obsN | apply obsC | apply obA | apply obM | apply obB | apply svA | apply tupA | apply lcA | apply lcS | apply svC | apply liC | apply lbC | apply lsC | apply vIc | apply vBc | apply vSc | apply vLc | apply mapC)
  all_goals (try simp only [std] at *)
  all_goals (try (first | with_reducible rfl | omega | assumption | (refine (decide_eq_true ?_).symm; assumption) | (refine (decide_eq_false ?_).symm; assumption) | (refine rowGet ?_; (first | omega | (simp only [std]; omega) | grind)) | (refine getC ?_ rfl; (first | omega | (simp only [std]; omega) | grind)) | (refine fill_step ?_ ?_; (first | omega | (simp only [std]; omega) | grind); (first | rfl | exact (Row.eq _).trans rfl)) | (refine fill_init ?_; (first | rfl | exact (Row.eq _).trans rfl)) | grind [bytes_ext, snocI, snocS, rowSnoc]))
abbrev P_c_eqExportS (A : List Export) (B : List Export) : Prop := CallOK Try.prog 180 [] [ll (A.map exportC), ll (B.map exportC)] [] (.sv (lb (decide (A = B))))
def Tc_eqExportSLa (A : List Export) (B : List Export) (x0 : SV) : St := St.mk (regsOf 27 [(0, AV.sv (ll (List.map exportC A))), (1, AV.sv (ll (List.map exportC B))), (5, AV.sv
 x0)]) [] 0 
def Lc_eqExportSLa (A : List Export) (B : List Export) (k : Nat) : St := Tc_eqExportSLa A B (li (↑k : Int)) 
def Ic_eqExportSLa (A : List Export) (B : List Export) : Nat → St → Prop := Head (Lc_eqExportSLa A B) (fun k => k ≤ List.length A ∧ List.length A ≤ 9223372036854775807 ∧
 List.length A = List.length B ∧ List.take k A = List.take k B) fun k => List.length A - k 
def W0c_eqExportSLa (A : List Export) (B : List Export) : St := St.mk (regsOf 27 []) [] 0 
def W1c_eqExportSLa (A : List Export) (B : List Export) (x0 : SV) : St := St.mk (regsOf 27 [(4, AV.sv x0)]) [] 0 
def Yc_eqExportSLa (A : List Export) (B : List Export) : List (Prop × AEx × St) := [(A = B, AEx.exit 0, W0c_eqExportSLa A B), (A ≠ B, AEx.ret, W1c_eqExportSLa A B (lb false))]
theorem Hc_eqExportSLa {A : List Export} {B : List Export} {k : Nat} {m : Nat} (h : (fun k => k ≤ List.length A ∧ List.length A ≤ 9223372036854775807 ∧ List.length A = List.length
 B ∧ List.take k A = List.take k B) k) (hm : (fun k => List.length A - k) k = m) : Ic_eqExportSLa A B m (Lc_eqExportSLa A B k) := hm ▸ Head.mk h
theorem Ec_eqExportSLa {A : List Export} {B : List Export} {k : Nat} {x0 : SV} (h0 : x0 = (li (↑k : Int))) : Tc_eqExportSLa A B x0 = Lc_eqExportSLa A B k := by
  rw [h0]
  rfl
theorem EW1c_eqExportSLa {A : List Export} {B : List Export} {x0 y0 : SV} (h0 : x0 = y0) : W1c_eqExportSLa A B x0 = W1c_eqExportSLa A B y0 := by rw [h0]
theorem run_c_eqExportSLa (A : List Export) (B : List Export) (k : Nat) : aexec Try.prog (loopAt Try.f180 0) (Lc_eqExportSLa A B k) [Orc.br [Orc.draw [], Orc.cells (exportF
 (List.getD A k default)), Orc.cells (exportF (List.getD B k default)), Orc.call [Mode.rd, Mode.rd] [] (AV.sv (lb (decide (List.getD A k default = List.getD B k default)))), Orc.br
 [Orc.ghost (Ghost.sel [] [4]), Orc.out 1] [Orc.ghost (Ghost.sel [] [0, 1, 5]), Orc.goto (List.length A - (k + 1)) (Lc_eqExportSLa A B (k + 1))]] [Orc.ghost (Ghost.sel [] []),
 Orc.out 0]] (loopK (Ic_eqExportSLa A B) (Yc_eqExportSLa A B) (List.length A - k)) = (List.length (List.map exportC A) ≤ 9223372036854775807 → (decide ((↑k : Int) < (↑(List.length
 (List.map exportC A)) : Int)) = true → (0 ≤ (↑k : Int) ∧ (List.map exportC A)[Int.toNat (↑k : Int)]? = some (exportF (List.getD A k default))) ∧ (0 ≤ (↑k : Int) ∧ (List.map
 exportC B)[Int.toNat (↑k : Int)]? = some (exportF (List.getD B k default))) ∧ P_c_eqExport (List.getD A k default) (List.getD B k default) ∧ ((!decide (List.getD A k default =
 List.getD B k default)) = true → A ≠ B ∧ W1c_eqExportSLa A B (lb false) = W1c_eqExportSLa A B (lb false)) ∧ ((!decide (List.getD A k default = List.getD B k default)) = false →
 rng IntKind.i64 ((↑k : Int) + 1) ∧ List.length A - (k + 1) < List.length A - k ∧ Tc_eqExportSLa A B (li ((↑k : Int) + 1)) = Lc_eqExportSLa A B (k + 1) ∧ Ic_eqExportSLa A B
 (List.length A - (k + 1)) (Lc_eqExportSLa A B (k + 1)))) ∧ (decide ((↑k : Int) < (↑(List.length (List.map exportC A)) : Int)) = false → A = B ∧ W0c_eqExportSLa A B =
 W0c_eqExportSLa A B)) := by kernel_rfl
theorem Sc_eqExportSLa (A : List Export) (B : List Export)  : LoopSem Try.prog (loopAt Try.f180 0) (Ic_eqExportSLa A B) (Yc_eqExportSLa A B) := by
  refine LoopSem.ofHead wide fun k h => ⟨_, _, run_c_eqExportSLa A B k, ?_⟩
  with_reducible repeat' (first | apply And.intro | exact flatI | exact flatS | exact rowLens | (intro; skip) | apply obsN | apply obsC | apply obA | apply obM | apply obB | apply svA | apply tupA | apply lcA | apply lcS | apply svC | apply liC | apply lbC | apply lsC | apply vIc | apply vBc | apply vSc | apply vLc | apply mapC | apply Hc_eqExportSLa | apply Ec_eqExportSLa | apply EW1c_eqExportSLa | apply c_eqExport)
  all_goals (try simp only [std] at *)
  all_goals (try (first | with_reducible rfl | omega | assumption | (refine (decide_eq_true ?_).symm; assumption) | (refine (decide_eq_false ?_).symm; assumption) | (refine rowGet ?_; (first | omega | (simp only [std]; omega) | grind)) | (refine getC ?_ rfl; (first | omega | (simp only [std]; omega) | grind)) | (refine fill_step ?_ ?_; (first | omega | (simp only [std]; omega) | grind); (first | rfl | exact (Row.eq _).trans rfl)) | (refine fill_init ?_; (first | rfl | exact (Row.eq _).trans rfl)) | grind [take_eq, getD_mem', snocI, snocS, rowSnoc]))
theorem run_c_eqExportS (A : List Export) (B : List Export) : aexec Try.prog (Option.getD (Func.body Try.f180) Code.skip) (entry [] [ll (List.map exportC A), ll (List.map exportC
 B)] 27) [Orc.br [Orc.fin []] [Orc.ghost (Ghost.sel [] [0, 1, 5]), Orc.loop (List.length A - 0) (Lc_eqExportSLa A B 0) (Ic_eqExportSLa A B) [(A = B, AEx.exit 0, W0c_eqExportSLa A
 B, [Orc.fin []]), (A ≠ B, AEx.ret, W1c_eqExportSLa A B (lb false), [Orc.fin []])]]] (finK Try.prog [ResultVar.tmp 4] [] (AV.sv (lb (decide (A = B))))) = (List.length (List.map
 exportC A) ≤ 9223372036854775807 → List.length (List.map exportC B) ≤ 9223372036854775807 → (decide ((↑(List.length (List.map exportC A)) : Int) ≠ (↑(List.length (List.map exportC
 B)) : Int)) = true → ObsEq [] [] ∧ AV.sv (lb false) = AV.sv (lb (decide (A = B)))) ∧ (decide ((↑(List.length (List.map exportC A)) : Int) ≠ (↑(List.length (List.map exportC B)) :
 Int)) = false → Tc_eqExportSLa A B (li 0) = Lc_eqExportSLa A B 0 ∧ Ic_eqExportSLa A B (List.length A - 0) (Lc_eqExportSLa A B 0) ∧ LoopSem Try.prog (loopAt Try.f180 0)
 (Ic_eqExportSLa A B) (Yc_eqExportSLa A B) ∧ (A = B → ObsEq [] [] ∧ AV.sv (lb true) = AV.sv (lb (decide (A = B)))) ∧ ((A = B → False) → ObsEq [] [] ∧ AV.sv (lb false) = AV.sv (lb
 (decide (A = B)))) ∧ True)) := by kernel_rfl
theorem c_eqExportS (A B : List Export)  : P_c_eqExportS A B := by
  refine CallOK.ofRun wide (run_c_eqExportS A B) Try.call180 Try.func180 rfl rfl rfl ?_
  with_reducible repeat' (first | apply And.intro | exact flatI | exact flatS | exact rowLens | (intro; skip) | apply obsN | apply obsC | apply obA | apply obM | apply obB | apply svA | apply tupA | apply lcA | apply lcS | apply svC | apply liC | apply lbC | apply lsC | apply vIc | apply vBc | apply vSc | apply vLc | apply mapC | apply Hc_eqExportSLa | apply Ec_eqExportSLa | apply Sc_eqExportSLa | apply EW1c_eqExportSLa | apply c_eqExport)
  all_goals (try simp only [std] at *)
  all_goals (try (first | with_reducible rfl | omega | assumption | (refine (decide_eq_true ?_).symm; assumption) | (refine (decide_eq_false ?_).symm; assumption) | (refine rowGet ?_; (first | omega | (simp only [std]; omega) | grind)) | (refine getC ?_ rfl; (first | omega | (simp only [std]; omega) | grind)) | (refine fill_step ?_ ?_; (first | omega | (simp only [std]; omega) | grind); (first | rfl | exact (Row.eq _).trans rfl)) | (refine fill_init ?_; (first | rfl | exact (Row.eq _).trans rfl)) | grind [snocI, snocS, rowSnoc]))
abbrev P_c_eqUnit (x : Unit) (y : Unit) : Prop := CallOK Try.prog 76 [] [unitA x, unitA y] [] (.sv (lb (decide (x = y))))
theorem run_c_eqUnit (x : Unit) (y : Unit) : aexec Try.prog (Option.getD (Func.body Try.f76) Code.skip) (entry [] [unitA x, unitA y] 22) [Orc.br [Orc.fin []] [Orc.call [Mode.rd,
 Mode.rd] [] (AV.sv (lb (decide (Unit.globals x = Unit.globals y)))), Orc.br [Orc.fin []] [Orc.call [Mode.rd, Mode.rd] [] (AV.sv (lb (decide (Unit.body x = Unit.body y)))), Orc.br
 [Orc.fin []] [Orc.fin []]]]] (finK Try.prog [ResultVar.tmp 4] [] (AV.sv (lb (decide (x = y))))) = ((decide (Array.toList (ByteArray.data (Unit.name x)) ≠ Array.toList
 (ByteArray.data (Unit.name y))) = true → ObsEq [] [] ∧ AV.sv (lb false) = AV.sv (lb (decide (x = y)))) ∧ (decide (Array.toList (ByteArray.data (Unit.name x)) ≠ Array.toList
 (ByteArray.data (Unit.name y))) = false → P_c_eqIntS (Unit.globals x) (Unit.globals y) ∧ ((!decide (Unit.globals x = Unit.globals y)) = true → ObsEq [] [] ∧ AV.sv (lb false) =
 AV.sv (lb (decide (x = y)))) ∧ ((!decide (Unit.globals x = Unit.globals y)) = false → P_c_eqCore (Unit.body x) (Unit.body y) ∧ ((!decide (Unit.body x = Unit.body y)) = true →
 ObsEq [] [] ∧ AV.sv (lb false) = AV.sv (lb (decide (x = y)))) ∧ ((!decide (Unit.body x = Unit.body y)) = false → ObsEq [] [] ∧ AV.sv (lb true) = AV.sv (lb (decide (x = y))))))) :=
 by kernel_rfl
theorem c_eqUnit (x y : Unit)  : P_c_eqUnit x y := by
  refine CallOK.ofRun wide (run_c_eqUnit x y) Try.call76 Try.func76 rfl rfl rfl ?_
  simp only [unitExt]
  with_reducible repeat' (first | apply And.intro | exact flatI | exact flatS | exact rowLens | (intro; skip) | apply obsN | apply obsC | apply obA | apply obM | apply obB | apply svA | apply tupA | apply lcA | apply lcS | apply svC | apply liC | apply lbC | apply lsC | apply vIc | apply vBc | apply vSc | apply vLc | apply mapC | apply c_eqIntS | apply c_eqCore)
  all_goals (try simp only [std] at *)
  all_goals (try (first | with_reducible rfl | omega | assumption | (refine (decide_eq_true ?_).symm; assumption) | (refine (decide_eq_false ?_).symm; assumption) | (refine rowGet ?_; (first | omega | (simp only [std]; omega) | grind)) | (refine getC ?_ rfl; (first | omega | (simp only [std]; omega) | grind)) | (refine fill_step ?_ ?_; (first | omega | (simp only [std]; omega) | grind); (first | rfl | exact (Row.eq _).trans rfl)) | (refine fill_init ?_; (first | rfl | exact (Row.eq _).trans rfl)) | grind [bytes_ext, snocI, snocS, rowSnoc]))
abbrev P_c_eqUnitS (A : List Unit) (B : List Unit) : Prop := CallOK Try.prog 29 [] [ll (A.map unitC), ll (B.map unitC)] [] (.sv (lb (decide (A = B))))
def Tc_eqUnitSLa (A : List Unit) (B : List Unit) (x0 : SV) : St := St.mk (regsOf 27 [(0, AV.sv (ll (List.map unitC A))), (1, AV.sv (ll (List.map unitC B))), (5, AV.sv x0)]) [] 0 
def Lc_eqUnitSLa (A : List Unit) (B : List Unit) (k : Nat) : St := Tc_eqUnitSLa A B (li (↑k : Int)) 
def Ic_eqUnitSLa (A : List Unit) (B : List Unit) : Nat → St → Prop := Head (Lc_eqUnitSLa A B) (fun k => k ≤ List.length A ∧ List.length A ≤ 9223372036854775807 ∧ List.length A =
 List.length B ∧ List.take k A = List.take k B) fun k => List.length A - k 
def W0c_eqUnitSLa (A : List Unit) (B : List Unit) : St := St.mk (regsOf 27 []) [] 0 
def W1c_eqUnitSLa (A : List Unit) (B : List Unit) (x0 : SV) : St := St.mk (regsOf 27 [(4, AV.sv x0)]) [] 0 
def Yc_eqUnitSLa (A : List Unit) (B : List Unit) : List (Prop × AEx × St) := [(A = B, AEx.exit 0, W0c_eqUnitSLa A B), (A ≠ B, AEx.ret, W1c_eqUnitSLa A B (lb false))]
theorem Hc_eqUnitSLa {A : List Unit} {B : List Unit} {k : Nat} {m : Nat} (h : (fun k => k ≤ List.length A ∧ List.length A ≤ 9223372036854775807 ∧ List.length A = List.length B ∧
 List.take k A = List.take k B) k) (hm : (fun k => List.length A - k) k = m) : Ic_eqUnitSLa A B m (Lc_eqUnitSLa A B k) := hm ▸ Head.mk h
theorem Ec_eqUnitSLa {A : List Unit} {B : List Unit} {k : Nat} {x0 : SV} (h0 : x0 = (li (↑k : Int))) : Tc_eqUnitSLa A B x0 = Lc_eqUnitSLa A B k := by
  rw [h0]
  rfl
theorem EW1c_eqUnitSLa {A : List Unit} {B : List Unit} {x0 y0 : SV} (h0 : x0 = y0) : W1c_eqUnitSLa A B x0 = W1c_eqUnitSLa A B y0 := by rw [h0]
theorem run_c_eqUnitSLa (A : List Unit) (B : List Unit) (k : Nat) : aexec Try.prog (loopAt Try.f29 0) (Lc_eqUnitSLa A B k) [Orc.br [Orc.draw [], Orc.cells (unitF (List.getD A k
 default)), Orc.cells (unitF (List.getD B k default)), Orc.call [Mode.rd, Mode.rd] [] (AV.sv (lb (decide (List.getD A k default = List.getD B k default)))), Orc.br [Orc.ghost
 (Ghost.sel [] [4]), Orc.out 1] [Orc.ghost (Ghost.sel [] [0, 1, 5]), Orc.goto (List.length A - (k + 1)) (Lc_eqUnitSLa A B (k + 1))]] [Orc.ghost (Ghost.sel [] []), Orc.out 0]]
 (loopK (Ic_eqUnitSLa A B) (Yc_eqUnitSLa A B) (List.length A - k)) = (List.length (List.map unitC A) ≤ 9223372036854775807 → (decide ((↑k : Int) < (↑(List.length (List.map unitC
 A)) : Int)) = true → (0 ≤ (↑k : Int) ∧ (List.map unitC A)[Int.toNat (↑k : Int)]? = some (unitF (List.getD A k default))) ∧ (0 ≤ (↑k : Int) ∧ (List.map unitC B)[Int.toNat (↑k :
 Int)]? = some (unitF (List.getD B k default))) ∧ P_c_eqUnit (List.getD A k default) (List.getD B k default) ∧ ((!decide (List.getD A k default = List.getD B k default)) = true → A
 ≠ B ∧ W1c_eqUnitSLa A B (lb false) = W1c_eqUnitSLa A B (lb false)) ∧ ((!decide (List.getD A k default = List.getD B k default)) = false → rng IntKind.i64 ((↑k : Int) + 1) ∧
 List.length A - (k + 1) < List.length A - k ∧ Tc_eqUnitSLa A B (li ((↑k : Int) + 1)) = Lc_eqUnitSLa A B (k + 1) ∧ Ic_eqUnitSLa A B (List.length A - (k + 1)) (Lc_eqUnitSLa A B (k +
 1)))) ∧ (decide ((↑k : Int) < (↑(List.length (List.map unitC A)) : Int)) = false → A = B ∧ W0c_eqUnitSLa A B = W0c_eqUnitSLa A B)) := by kernel_rfl
theorem Sc_eqUnitSLa (A : List Unit) (B : List Unit)  : LoopSem Try.prog (loopAt Try.f29 0) (Ic_eqUnitSLa A B) (Yc_eqUnitSLa A B) := by
  refine LoopSem.ofHead wide fun k h => ⟨_, _, run_c_eqUnitSLa A B k, ?_⟩
  with_reducible repeat' (first | apply And.intro | exact flatI | exact flatS | exact rowLens | (intro; skip) | apply obsN | apply obsC | apply obA | apply obM | apply obB | apply svA | apply tupA | apply lcA | apply lcS | apply svC | apply liC | apply lbC | apply lsC | apply vIc | apply vBc | apply vSc | apply vLc | apply mapC | apply Hc_eqUnitSLa | apply Ec_eqUnitSLa | apply EW1c_eqUnitSLa | apply c_eqUnit)
  all_goals (try simp only [std] at *)
  all_goals (try (first | with_reducible rfl | omega | assumption | (refine (decide_eq_true ?_).symm; assumption) | (refine (decide_eq_false ?_).symm; assumption) | (refine rowGet ?_; (first | omega | (simp only [std]; omega) | grind)) | (refine getC ?_ rfl; (first | omega | (simp only [std]; omega) | grind)) | (refine fill_step ?_ ?_; (first | omega | (simp only [std]; omega) | grind); (first | rfl | exact (Row.eq _).trans rfl)) | (refine fill_init ?_; (first | rfl | exact (Row.eq _).trans rfl)) | grind [take_eq, getD_mem', snocI, snocS, rowSnoc]))
theorem run_c_eqUnitS (A : List Unit) (B : List Unit) : aexec Try.prog (Option.getD (Func.body Try.f29) Code.skip) (entry [] [ll (List.map unitC A), ll (List.map unitC B)] 27)
 [Orc.br [Orc.fin []] [Orc.ghost (Ghost.sel [] [0, 1, 5]), Orc.loop (List.length A - 0) (Lc_eqUnitSLa A B 0) (Ic_eqUnitSLa A B) [(A = B, AEx.exit 0, W0c_eqUnitSLa A B, [Orc.fin
 []]), (A ≠ B, AEx.ret, W1c_eqUnitSLa A B (lb false), [Orc.fin []])]]] (finK Try.prog [ResultVar.tmp 4] [] (AV.sv (lb (decide (A = B))))) = (List.length (List.map unitC A) ≤
 9223372036854775807 → List.length (List.map unitC B) ≤ 9223372036854775807 → (decide ((↑(List.length (List.map unitC A)) : Int) ≠ (↑(List.length (List.map unitC B)) : Int)) = true
 → ObsEq [] [] ∧ AV.sv (lb false) = AV.sv (lb (decide (A = B)))) ∧ (decide ((↑(List.length (List.map unitC A)) : Int) ≠ (↑(List.length (List.map unitC B)) : Int)) = false →
 Tc_eqUnitSLa A B (li 0) = Lc_eqUnitSLa A B 0 ∧ Ic_eqUnitSLa A B (List.length A - 0) (Lc_eqUnitSLa A B 0) ∧ LoopSem Try.prog (loopAt Try.f29 0) (Ic_eqUnitSLa A B) (Yc_eqUnitSLa A
 B) ∧ (A = B → ObsEq [] [] ∧ AV.sv (lb true) = AV.sv (lb (decide (A = B)))) ∧ ((A = B → False) → ObsEq [] [] ∧ AV.sv (lb false) = AV.sv (lb (decide (A = B)))) ∧ True)) := by
 kernel_rfl
theorem c_eqUnitS (A B : List Unit)  : P_c_eqUnitS A B := by
  refine CallOK.ofRun wide (run_c_eqUnitS A B) Try.call29 Try.func29 rfl rfl rfl ?_
  with_reducible repeat' (first | apply And.intro | exact flatI | exact flatS | exact rowLens | (intro; skip) | apply obsN | apply obsC | apply obA | apply obM | apply obB | apply svA | apply tupA | apply lcA | apply lcS | apply svC | apply liC | apply lbC | apply lsC | apply vIc | apply vBc | apply vSc | apply vLc | apply mapC | apply Hc_eqUnitSLa | apply Ec_eqUnitSLa | apply Sc_eqUnitSLa | apply EW1c_eqUnitSLa | apply c_eqUnit)
  all_goals (try simp only [std] at *)
  all_goals (try (first | with_reducible rfl | omega | assumption | (refine (decide_eq_true ?_).symm; assumption) | (refine (decide_eq_false ?_).symm; assumption) | (refine rowGet ?_; (first | omega | (simp only [std]; omega) | grind)) | (refine getC ?_ rfl; (first | omega | (simp only [std]; omega) | grind)) | (refine fill_step ?_ ?_; (first | omega | (simp only [std]; omega) | grind); (first | rfl | exact (Row.eq _).trans rfl)) | (refine fill_init ?_; (first | rfl | exact (Row.eq _).trans rfl)) | grind [snocI, snocS, rowSnoc]))
abbrev P_c_eqWorld (x : World) (y : World) : Prop := CallOK Try.prog 71 [] [worldA x, worldA y] [] (.sv (lb (decide (x = y))))
theorem run_c_eqWorld (x : World) (y : World) : aexec Try.prog (Option.getD (Func.body Try.f71) Code.skip) (entry [] [worldA x, worldA y] 23) [Orc.call [Mode.rd, Mode.rd] [] (AV.sv
 (lb (decide (World.expander x = World.expander y)))), Orc.br [Orc.fin []] [Orc.call [Mode.rd, Mode.rd] [] (AV.sv (lb (decide (World.units x = World.units y)))), Orc.br [Orc.fin
 []] [Orc.call [Mode.rd, Mode.rd] [] (AV.sv (lb (decide (World.exports x = World.exports y)))), Orc.br [Orc.fin []] [Orc.fin []]]]] (finK Try.prog [ResultVar.tmp 4] [] (AV.sv (lb
 (decide (x = y))))) = (P_c_eqExpander (World.expander x) (World.expander y) ∧ ((!decide (World.expander x = World.expander y)) = true → ObsEq [] [] ∧ AV.sv (lb false) = AV.sv (lb
 (decide (x = y)))) ∧ ((!decide (World.expander x = World.expander y)) = false → P_c_eqUnitS (World.units x) (World.units y) ∧ ((!decide (World.units x = World.units y)) = true →
 ObsEq [] [] ∧ AV.sv (lb false) = AV.sv (lb (decide (x = y)))) ∧ ((!decide (World.units x = World.units y)) = false → P_c_eqExportS (World.exports x) (World.exports y) ∧ ((!decide
 (World.exports x = World.exports y)) = true → ObsEq [] [] ∧ AV.sv (lb false) = AV.sv (lb (decide (x = y)))) ∧ ((!decide (World.exports x = World.exports y)) = false → ObsEq [] []
 ∧ AV.sv (lb true) = AV.sv (lb (decide (x = y))))))) := by kernel_rfl
theorem c_eqWorld (x y : World)  : P_c_eqWorld x y := by
  refine CallOK.ofRun wide (run_c_eqWorld x y) Try.call71 Try.func71 rfl rfl rfl ?_
  simp only [worldExt]
  with_reducible repeat' (first | apply And.intro | exact flatI | exact flatS | exact rowLens | (intro; skip) | apply obsN | apply obsC | apply obA | apply obM | apply obB | apply svA | apply tupA | apply lcA | apply lcS | apply svC | apply liC | apply lbC | apply lsC | apply vIc | apply vBc | apply vSc | apply vLc | apply mapC | apply c_eqExpander | apply c_eqUnitS | apply c_eqExportS)
  all_goals (try simp only [std] at *)
  all_goals (try (first | with_reducible rfl | omega | assumption | (refine (decide_eq_true ?_).symm; assumption) | (refine (decide_eq_false ?_).symm; assumption) | (refine rowGet ?_; (first | omega | (simp only [std]; omega) | grind)) | (refine getC ?_ rfl; (first | omega | (simp only [std]; omega) | grind)) | (refine fill_step ?_ ?_; (first | omega | (simp only [std]; omega) | grind); (first | rfl | exact (Row.eq _).trans rfl)) | (refine fill_init ?_; (first | rfl | exact (Row.eq _).trans rfl)) | grind [bytes_ext, snocI, snocS, rowSnoc]))
end Go.Proofs.Ytehpjofddjmbpaa
end
section
namespace Go.Proofs.Ytehpjofddjmbpaa
open Go Go.Proofs.Ytehpjofddjmbpaa.Ab
set_option linter.unusedVariables false
set_option linter.unusedSimpArgs false
set_option maxHeartbeats 4000000
abbrev P_c_LFind (w : World) (m : ByteArray) (t : ByteArray) : Prop := CallOK Try.prog 11 [] [worldA w, ls m, ls t] [] (.sv (lb true))
theorem run_c_LFind (w : World) (m : ByteArray) (t : ByteArray) : aexec Try.prog (Option.getD (Func.body Try.f11) Code.skip) (entry [] [worldA w, ls m, ls t] 55) [Orc.br [Orc.fin
 []] [Orc.br [Orc.fin []] [Orc.call [Mode.rd, Mode.rd] [] (AV.sv (li (sz (wW w) 1048576))), Orc.br [Orc.fin []] [Orc.call [Mode.rd] (worldO w) (AV.sv (worldR w 0)), Orc.call
 [Mode.rd, Mode.rd, Mode.rd] [] (AV.tup [exportA (List.getD (World.exports w) (expAt (World.exports w) m t) default), lb (decide (expAt (World.exports w) m t < List.length
 (World.exports w)))]), Orc.call [Mode.rd] (worldO w) (AV.sv (worldR w 0)), Orc.call [Mode.rd, Mode.rd, Mode.rd] [] (AV.tup [exportA (List.getD (World.exports w) (expAt
 (World.exports w) m t) default), lb (decide (expAt (World.exports w) m t < List.length (World.exports w)))]), Orc.call [Mode.rd, Mode.rd] [] (AV.sv (lb (decide (List.getD
 (World.exports w) (expAt (World.exports w) m t) default = List.getD (World.exports w) (expAt (World.exports w) m t) default)))), Orc.br [Orc.bool true, Orc.fin []] [Orc.br
 [Orc.fin []] [Orc.draw [], Orc.call [Mode.rd] (worldO w) (AV.sv (worldR w 0)), Orc.call [Mode.rd, Mode.rd] [] (AV.sv (lb (decide (w = w)))), Orc.br [Orc.fin []] [Orc.fin []]]]]]]]
 (finK Try.prog [ResultVar.tmp 6] [] (AV.sv (lb true))) = (List.length (Array.toList (ByteArray.data m)) ≤ 9223372036854775807 → (decide (1048576 < (↑(List.length (Array.toList
 (ByteArray.data m))) : Int)) = true → ObsEq [] [] ∧ AV.sv (lb true) = AV.sv (lb true)) ∧ (decide (1048576 < (↑(List.length (Array.toList (ByteArray.data m))) : Int)) = false →
 List.length (Array.toList (ByteArray.data t)) ≤ 9223372036854775807 → (decide (1048576 < (↑(List.length (Array.toList (ByteArray.data t))) : Int)) = true → ObsEq [] [] ∧ AV.sv (lb
 true) = AV.sv (lb true)) ∧ (decide (1048576 < (↑(List.length (Array.toList (ByteArray.data t))) : Int)) = false → P_c_szWorld w 1048576 ∧ (decide (sz (wW w) (1048576 : Int) < 0) =
 true → ObsEq [] [] ∧ AV.sv (lb true) = AV.sv (lb true)) ∧ (decide (sz (wW w) (1048576 : Int) < 0) = false → P_c_toWorld w ∧ P_c_sFindExport w m t ∧ P_c_toWorld w ∧ P_c_iFindExport
 w m t ∧ P_c_eqExport (List.getD (World.exports w) (expAt (World.exports w) m t) default) (List.getD (World.exports w) (expAt (World.exports w) m t) default) ∧ ((!decide (List.getD
 (World.exports w) (expAt (World.exports w) m t) default = List.getD (World.exports w) (expAt (World.exports w) m t) default)) = true → true = true ∧ ObsEq [] [] ∧ AV.sv (lb false)
 = AV.sv (lb true)) ∧ ((!decide (List.getD (World.exports w) (expAt (World.exports w) m t) default = List.getD (World.exports w) (expAt (World.exports w) m t) default)) = false →
 (decide (decide (expAt (World.exports w) m t < List.length (World.exports w)) ≠ decide (expAt (World.exports w) m t < List.length (World.exports w))) = true → ObsEq [] [] ∧ AV.sv
 (lb false) = AV.sv (lb true)) ∧ (decide (decide (expAt (World.exports w) m t < List.length (World.exports w)) ≠ decide (expAt (World.exports w) m t < List.length (World.exports
 w))) = false → P_c_toWorld w ∧ P_c_eqWorld w w ∧ ((!decide (w = w)) = true → ObsEq [] [] ∧ AV.sv (lb false) = AV.sv (lb true)) ∧ ((!decide (w = w)) = false → ObsEq [] [] ∧ AV.sv
 (lb true) = AV.sv (lb true)))))))) := by kernel_rfl
theorem c_LFind (w : World) (m t : ByteArray)  : P_c_LFind w m t := by
  refine CallOK.ofRun wide (run_c_LFind w m t) Try.call11 Try.func11 rfl rfl rfl ?_
  have h1 := wW_eq w
  with_reducible repeat' (first | apply And.intro | exact flatI | exact flatS | exact rowLens | (intro; skip) | apply obsN | apply obsC | apply obA | apply obM | apply obB | apply svA | apply tupA | apply lcA | apply lcS | apply svC | apply liC | apply lbC | apply lsC | apply vIc | apply vBc | apply vSc | apply vLc | apply mapC | apply c_szWorld | apply c_toWorld | apply c_eqWorld | apply c_eqExport | apply c_sFindExport | apply c_iFindExport)
  all_goals (try simp only [std] at *)
  all_goals (try (first | with_reducible rfl | omega | assumption | (refine (decide_eq_true ?_).symm; assumption) | (refine (decide_eq_false ?_).symm; assumption) | (refine rowGet ?_; (first | omega | (simp only [std]; omega) | grind)) | (refine getC ?_ rfl; (first | omega | (simp only [std]; omega) | grind)) | (refine fill_step ?_ ?_; (first | omega | (simp only [std]; omega) | grind); (first | rfl | exact (Row.eq _).trans rfl)) | (refine fill_init ?_; (first | rfl | exact (Row.eq _).trans rfl)) | grind [sz, snocI, snocS, rowSnoc]))
end Go.Proofs.Ytehpjofddjmbpaa
end
section
namespace Go.Proofs.Ytehpjofddjmbpaa.fnExactFindExport
open Go Go.ChangeShapes Go.WideShapes Go.ChangeAt Go.RowKit Go.Proofs.Ytehpjofddjmbpaa.Ab
set_option linter.unusedVariables false
theorem own : ownKnob Try.prog.godebug = none := by kernel_rfl
theorem laid : laidOutB Try.prog = true := by kernel_rfl
theorem rowed : mapsRowed Try.prog = true := by kernel_rfl
theorem sized : ((List.range Try.prog.types.size).all fun t => match Try.prog.underlying t with | some (.slice e) => decide (0 < Try.prog.cellsOf e) | _ => true) = true := by kernel_rfl
set_option maxRecDepth 100000 in
theorem lifted (os : Os) (started : os.Started) (H : Type) (enc : TypeId × Value → H) :
    ReturnsInHanded {} Try.checked os 11 .any (Rows.fnExactFindExportSpec.pre6 enc Try.prog Try.f11 Rows.fnExactFindExportRow.domain false) (Rows.fnExactFindExportSpec.post enc Try.prog Try.f11 false true false false) := by
  refine returnsInHanded_of_change (C := Try.checked) own started (by kernel_rfl) Try.func11
    (ChangeSpec.witness6 (enc := enc) (C := Try.checked) false ⟨#[], #[.agg #[.slice none 0 0, .slice none 0 0, .int .i64 0, .int .i64 0, .int .i64 0, .slice none 0 0, .slice none 0 0], .string ⟨#[]⟩, .string ⟨#[]⟩], []⟩ 12 (by kernel_rfl) (by kernel_rfl) (by kernel_rfl) (by kernel_rfl)) ?_
  intro W base args ds gs before hval0 hW hcnd _
  have hval : ∀ (j : Nat) t v, Try.f11.params[j]? = some t → args[j]? = some v → Value.okWide Try.prog W .any base t v := hval0
  have hW' := hW
  obtain ⟨p, q, hA0, hV, rfl, hfz, hnd⟩ := hW
  obtain ⟨rfl, rfl⟩ := trodVars_none hV
  have hA : DataW.TrodAll enc Try.prog W 0 (fun _ => true) true Try.f11.params.toList args.toList ds p := hA0
  rw [Try.params11] at hA hval
  have hA2 := hA
  clear hA0 hval0
  obtain ⟨v0, vs0, d0, ds0, p0, q0, hargs0, rfl, rfl, h0, r0⟩ := trodAll_cons hA
  obtain ⟨v1, vs1, d1, ds1, p1, q1, hargs1, rfl, rfl, h1, r1⟩ := trodAll_cons r0
  obtain ⟨v2, vs2, d2, ds2, p2, q2, hargs2, rfl, rfl, h2, r2⟩ := trodAll_cons r1
  obtain ⟨rfl, rfl, rfl⟩ := trodAll_nil r2
  obtain rfl : args = #[v0, v1, v2] := by cases args; simp_all
  obtain ⟨a0, c0⟩ := (let ⟨fuel, hf⟩ := h0; rd_world fuel _ _ hf)
  have s0 : SVRel W (allI W) (obOf []) (worldA a0) v0 := agg_rel (let ⟨cs, h, _⟩ := okWide_struct Try.underlying102 (hval 0 102 v0 rfl rfl); ⟨cs, h⟩) c0
  obtain ⟨a1, c1⟩ := (let ⟨fuel, hf⟩ := h1; rd_string Try.underlying9 hf)
  have s1 : SVRel W (allI W) (obOf []) (ls a1) v1 := one_rel (by obtain ⟨_, rfl⟩ := okWide_string Try.underlying9 (hval 1 9 v1 rfl rfl); rfl) c1
  obtain ⟨a2, c2⟩ := (let ⟨fuel, hf⟩ := h2; rd_string Try.underlying9 hf)
  have s2 : SVRel W (allI W) (obOf []) (ls a2) v2 := one_rel (by obtain ⟨_, rfl⟩ := okWide_string Try.underlying9 (hval 2 9 v2 rfl rfl); rfl) c2
  refine (CallOK.kept (w := W) (vals := #[v0, v1, v2]) (c_LFind a0 a1 a2) ⟨s0, s1, s2, trivial⟩).mono fun e W' ⟨he, hg, _⟩ => ?_
  subst he
  exact ⟨_, rfl, post_of_kept (pv := []) hW' (fun _ _ _ => (trodAll_cons_mk (shut_bool Try.underlying4 _) trodAll_mk0))
    (fun sp hsp => trodAll_kept laid rowed sized hg (by decide +kernel) hA2 fun y hy => hsp y (by simpa using hy)) (fun _ _ => rfl) rfl
    hg (ok_one (by kernel_rfl) rfl (okWide_bool_mk Try.underlying4 _))⟩
set_option maxRecDepth 100000 in
set_option maxHeartbeats 0 in
theorem facts : joinedFacts Try.pinned.checked.prog 11 Try.f11 Rows.fnExactFindExportSpec Rows.fnExactFindExportRow = true := by
  delta joinedFacts
  with_reducible repeat' apply and_i
  all_goals (first | with_reducible exact enters | (rw [makes]; kernel_rfl) | (rw [lifts]; kernel_rfl) | decide +kernel)
theorem over : Rows.fnExactFindExportRow.holds Try.pinned (OpenSpec.ofChange Rows.fnExactFindExportSpec) :=
  OpenClaim.holds_of_wide 11 Try.f11 rfl rfl rfl rfl rfl rfl rfl ⟨rfl, rfl, rfl, rfl, rfl⟩ rfl rfl rfl rfl rfl (by kernel_rfl) Try.func11 facts
    (of_decide_eq_true (by kernel_rfl)) (by unfold Func.isWrapper; first | (rw [if_pos (by decide +kernel)]; kernel_rfl) | (rw [if_neg (by decide +kernel)]; exact ⟨rfl, rfl⟩))
    (fun os started H enc _ => lifted os started H enc)
theorem proved : Rows.FnExactFindExportSaid :=
  over
end Go.Proofs.Ytehpjofddjmbpaa.fnExactFindExport
end
