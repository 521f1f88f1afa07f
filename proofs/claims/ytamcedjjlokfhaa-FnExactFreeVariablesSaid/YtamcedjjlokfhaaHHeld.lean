/- The contracts of the functions with which the laws look whether marks were kept. No condition. -/
import Derived.Test.YtamcedjjlokfhaaHMark
import Derived.Test.YtamcedjjlokfhaaRows
namespace Go.Proofs.Ytamcedjjlokfhaa
open Go Go.Proofs.Ytamcedjjlokfhaa.Ab
set_option linter.unusedVariables false
set_option linter.unusedSimpArgs false
set_option maxHeartbeats 4000000

abbrev P_c_heldIntS (L : List Int) (n : Int) : Prop := CallOK Try.prog 31 [] [ll (L.map intC), li n] [] (.sv (li (n + L.length)))
def Tc_heldIntSLa (L : List Int) (n : Int) (x0 : SV) (x1 : SV) : St := St.mk (regsOf 21 [(0, AV.sv (ll (List.map intC L))), (1, AV.sv x1), (5, AV.sv x0)]) [] 0 
def Lc_heldIntSLa (L : List Int) (n : Int) (k : Nat) : St := Tc_heldIntSLa L n (li (↑k : Int)) (li (n + (↑k : Int))) 
def Ic_heldIntSLa (L : List Int) (n : Int) : Nat → St → Prop := Head (Lc_heldIntSLa L n) (fun k => k ≤ List.length L ∧ List.length L ≤ 9223372036854775807) fun k => List.length L -
 k 
def W0c_heldIntSLa (L : List Int) (n : Int) (x0 : SV) : St := St.mk (regsOf 21 [(1, AV.sv x0)]) [] 0 
def W1c_heldIntSLa (L : List Int) (n : Int) (x0 : SV) : St := St.mk (regsOf 21 [(4, AV.sv x0)]) [] 0 
def Yc_heldIntSLa (L : List Int) (n : Int) : List (Prop × AEx × St) := [(True, AEx.exit 0, W0c_heldIntSLa L n (li (n + (↑(List.length L) : Int)))), (False, AEx.ret, W1c_heldIntSLa
 L n (li (-1 : Int)))]
theorem Hc_heldIntSLa {L : List Int} {n : Int} {k : Nat} {m : Nat} (h : (fun k => k ≤ List.length L ∧ List.length L ≤ 9223372036854775807) k) (hm : (fun k => List.length L - k) k =
 m) : Ic_heldIntSLa L n m (Lc_heldIntSLa L n k) := hm ▸ Head.mk h
theorem Ec_heldIntSLa {L : List Int} {n : Int} {k : Nat} {x0 : SV} {x1 : SV} (h0 : x0 = (li (↑k : Int))) (h1 : x1 = (li (n + (↑k : Int)))) : Tc_heldIntSLa L n x0 x1 = Lc_heldIntSLa
 L n k := by
  rw [h0, h1]
  rfl
theorem EW0c_heldIntSLa {L : List Int} {n : Int} {x0 y0 : SV} (h0 : x0 = y0) : W0c_heldIntSLa L n x0 = W0c_heldIntSLa L n y0 := by rw [h0]
theorem EW1c_heldIntSLa {L : List Int} {n : Int} {x0 y0 : SV} (h0 : x0 = y0) : W1c_heldIntSLa L n x0 = W1c_heldIntSLa L n y0 := by rw [h0]
theorem run_c_heldIntSLa (L : List Int) (n : Int) (k : Nat) : aexec Try.prog (loopAt Try.f31 0) (Lc_heldIntSLa L n k) [Orc.br [Orc.cells (intC (List.getD L k default)), Orc.br
 [Orc.ghost (Ghost.sel [] [4]), Orc.out 1] [Orc.ghost (Ghost.sel [] [0, 1, 5]), Orc.goto (List.length L - (k + 1)) (Lc_heldIntSLa L n (k + 1))]] [Orc.ghost (Ghost.sel [] [1]),
 Orc.out 0]] (loopK (Ic_heldIntSLa L n) (Yc_heldIntSLa L n) (List.length L - k)) = (List.length (List.map intC L) ≤ 9223372036854775807 → (decide ((↑k : Int) < (↑(List.length
 (List.map intC L)) : Int)) = true → (0 ≤ (↑k : Int) ∧ (List.map intC L)[Int.toNat (↑k : Int)]? = some [cI (List.getD L k 0)]) ∧ (decide (List.getD L k (0 : Int) ≠ n + (↑k : Int))
 = true → False ∧ W1c_heldIntSLa L n (li (-1 : Int)) = W1c_heldIntSLa L n (li (-1 : Int))) ∧ (decide (List.getD L k (0 : Int) ≠ n + (↑k : Int)) = false → rng IntKind.i64 (n + (↑k :
 Int) + 1) ∧ rng IntKind.i64 ((↑k : Int) + 1) ∧ List.length L - (k + 1) < List.length L - k ∧ Tc_heldIntSLa L n (li ((↑k : Int) + 1)) (li (n + (↑k : Int) + 1)) = Lc_heldIntSLa L n
 (k + 1) ∧ Ic_heldIntSLa L n (List.length L - (k + 1)) (Lc_heldIntSLa L n (k + 1)))) ∧ (decide ((↑k : Int) < (↑(List.length (List.map intC L)) : Int)) = false → True ∧
 W0c_heldIntSLa L n (li (n + (↑k : Int))) = W0c_heldIntSLa L n (li (n + (↑(List.length L) : Int))))) := by kernel_rfl
theorem Sc_heldIntSLa (L : List Int) (n : Int) (h0 : 0 ≤ n) (h : n + (↑(List.length L) : Int) ≤ 2147483647) (hm : seqM mkI cOne L n = L)  : LoopSem Try.prog (loopAt Try.f31 0)
 (Ic_heldIntSLa L n) (Yc_heldIntSLa L n) := by
  refine LoopSem.ofHead wide fun k h => ⟨_, _, run_c_heldIntSLa L n k, ?_⟩
  with_reducible repeat' (first | apply And.intro | exact flatI | exact flatS | exact rowLens | (intro; skip) | apply obsN | apply obsC | apply obA | apply obM | apply obB | apply svA | apply tupA | apply lcA | apply lcS | apply svC | apply liC | apply lbC | apply lsC | apply vIc | apply vBc | apply vSc | apply vLc | apply mapC | apply Hc_heldIntSLa | apply Ec_heldIntSLa | apply EW0c_heldIntSLa | apply EW1c_heldIntSLa)
  all_goals (try simp only [std, stdM] at *)
  all_goals (try (first | with_reducible rfl | omega | assumption | (refine (decide_eq_true ?_).symm; assumption) | (refine (decide_eq_false ?_).symm; assumption) | (refine rowGet ?_; (first | omega | (simp only [std, stdM]; omega) | grind)) | (refine getC ?_ rfl; (first | omega | (simp only [std, stdM]; omega) | grind)) | (refine fill_step ?_ ?_; (first | omega | (simp only [std, stdM]; omega) | grind); (first | rfl | exact (Row.eq _).trans rfl)) | (refine fill_init ?_; (first | rfl | exact (Row.eq _).trans rfl)) | (refine set_row ?_; (simp only [List.length_map, List.length_set, mkTo_len]; omega)) | (refine mkToRow ?_; (first | omega | (simp only [std, stdM]; omega) | grind)) | (refine mkTo_row ?_ rfl; (first | omega | (simp only [std, stdM]; omega) | grind)) | (refine mkTo_step ?_ ?_; (first | omega | (simp only [std, stdM]; omega) | grind); (first | grind [seqI_get hm, snocI, snocS, rowSnoc])) | grind [seqI_get hm, snocI, snocS, rowSnoc]))
theorem run_c_heldIntS (L : List Int) (n : Int) : aexec Try.prog (Option.getD (Func.body Try.f31) Code.skip) (entry [] [ll (List.map intC L), li n] 21) [Orc.ghost (Ghost.sel [] [0,
 1, 5]), Orc.loop (List.length L - 0) (Lc_heldIntSLa L n 0) (Ic_heldIntSLa L n) [(True, AEx.exit 0, W0c_heldIntSLa L n (li (n + (↑(List.length L) : Int))), [Orc.fin []]), (False,
 AEx.ret, W1c_heldIntSLa L n (li (-1 : Int)), [Orc.fin []])]] (finK Try.prog [ResultVar.tmp 4] [] (AV.sv (li (n + (↑(List.length L) : Int))))) = (Tc_heldIntSLa L n (li 0) (li n) =
 Lc_heldIntSLa L n 0 ∧ Ic_heldIntSLa L n (List.length L - 0) (Lc_heldIntSLa L n 0) ∧ LoopSem Try.prog (loopAt Try.f31 0) (Ic_heldIntSLa L n) (Yc_heldIntSLa L n) ∧ (True → ObsEq []
 [] ∧ AV.sv (li (n + (↑(List.length L) : Int))) = AV.sv (li (n + (↑(List.length L) : Int)))) ∧ (False → ObsEq [] [] ∧ AV.sv (li (-1 : Int)) = AV.sv (li (n + (↑(List.length L) :
 Int)))) ∧ True) := by kernel_rfl
theorem c_heldIntS (L : List Int) (n : Int) (h0 : 0 ≤ n) (h : n + L.length ≤ 2147483647) (hm : seqM mkI cOne L n = L)  : P_c_heldIntS L n := by
  refine CallOK.ofRun wide (run_c_heldIntS L n) Try.call31 Try.func31 rfl rfl rfl ?_
  with_reducible repeat' (first | apply And.intro | exact flatI | exact flatS | exact rowLens | (intro; skip) | apply obsN | apply obsC | apply obA | apply obM | apply obB | apply svA | apply tupA | apply lcA | apply lcS | apply svC | apply liC | apply lbC | apply lsC | apply vIc | apply vBc | apply vSc | apply vLc | apply mapC | apply Hc_heldIntSLa | apply Ec_heldIntSLa | apply Sc_heldIntSLa | apply EW0c_heldIntSLa | apply EW1c_heldIntSLa)
  all_goals (try simp only [std, stdM] at *)
  all_goals (try (first | with_reducible rfl | omega | assumption | (refine (decide_eq_true ?_).symm; assumption) | (refine (decide_eq_false ?_).symm; assumption) | (refine rowGet ?_; (first | omega | (simp only [std, stdM]; omega) | grind)) | (refine getC ?_ rfl; (first | omega | (simp only [std, stdM]; omega) | grind)) | (refine fill_step ?_ ?_; (first | omega | (simp only [std, stdM]; omega) | grind); (first | rfl | exact (Row.eq _).trans rfl)) | (refine fill_init ?_; (first | rfl | exact (Row.eq _).trans rfl)) | (refine set_row ?_; (simp only [List.length_map, List.length_set, mkTo_len]; omega)) | (refine mkToRow ?_; (first | omega | (simp only [std, stdM]; omega) | grind)) | (refine mkTo_row ?_ rfl; (first | omega | (simp only [std, stdM]; omega) | grind)) | (refine mkTo_step ?_ ?_; (first | omega | (simp only [std, stdM]; omega) | grind); (first | grind [snocI, snocS, rowSnoc])) | grind [snocI, snocS, rowSnoc]))

abbrev P_c_heldStringS (L : List ByteArray) (n : Int) : Prop := CallOK Try.prog 158 [] [ll (L.map strC), li n] [] (.sv (li (n + L.length)))
def Tc_heldStringSLa (L : List ByteArray) (n : Int) (x0 : SV) (x1 : SV) : St := St.mk (regsOf 22 [(0, AV.sv (ll (List.map strC L))), (1, AV.sv x1), (5, AV.sv x0)]) [] 0 
def Lc_heldStringSLa (L : List ByteArray) (n : Int) (k : Nat) : St := Tc_heldStringSLa L n (li (↑k : Int)) (li (n + (↑k : Int))) 
def Ic_heldStringSLa (L : List ByteArray) (n : Int) : Nat → St → Prop := Head (Lc_heldStringSLa L n) (fun k => k ≤ List.length L ∧ List.length L ≤ 9223372036854775807) fun k =>
 List.length L - k 
def W0c_heldStringSLa (L : List ByteArray) (n : Int) (x0 : SV) : St := St.mk (regsOf 22 [(1, AV.sv x0)]) [] 0 
def W1c_heldStringSLa (L : List ByteArray) (n : Int) (x0 : SV) : St := St.mk (regsOf 22 [(4, AV.sv x0)]) [] 0 
def Yc_heldStringSLa (L : List ByteArray) (n : Int) : List (Prop × AEx × St) := [(True, AEx.exit 0, W0c_heldStringSLa L n (li (n + (↑(List.length L) : Int)))), (False, AEx.ret,
 W1c_heldStringSLa L n (li (-1 : Int)))]
theorem Hc_heldStringSLa {L : List ByteArray} {n : Int} {k : Nat} {m : Nat} (h : (fun k => k ≤ List.length L ∧ List.length L ≤ 9223372036854775807) k) (hm : (fun k => List.length L
 - k) k = m) : Ic_heldStringSLa L n m (Lc_heldStringSLa L n k) := hm ▸ Head.mk h
theorem Ec_heldStringSLa {L : List ByteArray} {n : Int} {k : Nat} {x0 : SV} {x1 : SV} (h0 : x0 = (li (↑k : Int))) (h1 : x1 = (li (n + (↑k : Int)))) : Tc_heldStringSLa L n x0 x1 =
 Lc_heldStringSLa L n k := by
  rw [h0, h1]
  rfl
theorem EW0c_heldStringSLa {L : List ByteArray} {n : Int} {x0 y0 : SV} (h0 : x0 = y0) : W0c_heldStringSLa L n x0 = W0c_heldStringSLa L n y0 := by rw [h0]
theorem EW1c_heldStringSLa {L : List ByteArray} {n : Int} {x0 y0 : SV} (h0 : x0 = y0) : W1c_heldStringSLa L n x0 = W1c_heldStringSLa L n y0 := by rw [h0]
theorem run_c_heldStringSLa (L : List ByteArray) (n : Int) (k : Nat) : aexec Try.prog (loopAt Try.f158 0) (Lc_heldStringSLa L n k) [Orc.br [Orc.draw [], Orc.cells (strC (List.getD
 L k default)), Orc.call [Mode.rd] [] (AV.sv (ls (mText (n + (↑k : Int))))), Orc.br [Orc.ghost (Ghost.sel [] [4]), Orc.out 1] [Orc.ghost (Ghost.sel [] [0, 1, 5]), Orc.goto
 (List.length L - (k + 1)) (Lc_heldStringSLa L n (k + 1))]] [Orc.ghost (Ghost.sel [] [1]), Orc.out 0]] (loopK (Ic_heldStringSLa L n) (Yc_heldStringSLa L n) (List.length L - k)) =
 (List.length (List.map strC L) ≤ 9223372036854775807 → (decide ((↑k : Int) < (↑(List.length (List.map strC L)) : Int)) = true → (0 ≤ (↑k : Int) ∧ (List.map strC L)[Int.toNat (↑k :
 Int)]? = some [cS (List.getD L k default)]) ∧ P_c_markText (n + (↑k : Int)) ∧ (decide (Array.toList (ByteArray.data (List.getD L k default)) ≠ Array.toList (ByteArray.data (mText
 (n + (↑k : Int))))) = true → False ∧ W1c_heldStringSLa L n (li (-1 : Int)) = W1c_heldStringSLa L n (li (-1 : Int))) ∧ (decide (Array.toList (ByteArray.data (List.getD L k
 default)) ≠ Array.toList (ByteArray.data (mText (n + (↑k : Int))))) = false → rng IntKind.i64 (n + (↑k : Int) + 1) ∧ rng IntKind.i64 ((↑k : Int) + 1) ∧ List.length L - (k + 1) <
 List.length L - k ∧ Tc_heldStringSLa L n (li ((↑k : Int) + 1)) (li (n + (↑k : Int) + 1)) = Lc_heldStringSLa L n (k + 1) ∧ Ic_heldStringSLa L n (List.length L - (k + 1))
 (Lc_heldStringSLa L n (k + 1)))) ∧ (decide ((↑k : Int) < (↑(List.length (List.map strC L)) : Int)) = false → True ∧ W0c_heldStringSLa L n (li (n + (↑k : Int))) = W0c_heldStringSLa
 L n (li (n + (↑(List.length L) : Int))))) := by kernel_rfl
theorem Sc_heldStringSLa (L : List ByteArray) (n : Int) (h0 : 0 ≤ n) (h : n + (↑(List.length L) : Int) ≤ 2147483647) (hm : seqM mkT cOne L n = L)  : LoopSem Try.prog (loopAt
 Try.f158 0) (Ic_heldStringSLa L n) (Yc_heldStringSLa L n) := by
  refine LoopSem.ofHead wide fun k h => ⟨_, _, run_c_heldStringSLa L n k, ?_⟩
  with_reducible repeat' (first | apply And.intro | exact flatI | exact flatS | exact rowLens | (intro; skip) | apply obsN | apply obsC | apply obA | apply obM | apply obB | apply svA | apply tupA | apply lcA | apply lcS | apply svC | apply liC | apply lbC | apply lsC | apply vIc | apply vBc | apply vSc | apply vLc | apply mapC | apply Hc_heldStringSLa | apply Ec_heldStringSLa | apply EW0c_heldStringSLa | apply EW1c_heldStringSLa | apply c_markText)
  all_goals (try simp only [std, stdM] at *)
  all_goals (try (first | with_reducible rfl | omega | assumption | (refine (decide_eq_true ?_).symm; assumption) | (refine (decide_eq_false ?_).symm; assumption) | (refine rowGet ?_; (first | omega | (simp only [std, stdM]; omega) | grind)) | (refine getC ?_ rfl; (first | omega | (simp only [std, stdM]; omega) | grind)) | (refine fill_step ?_ ?_; (first | omega | (simp only [std, stdM]; omega) | grind); (first | rfl | exact (Row.eq _).trans rfl)) | (refine fill_init ?_; (first | rfl | exact (Row.eq _).trans rfl)) | (refine set_row ?_; (simp only [List.length_map, List.length_set, mkTo_len]; omega)) | (refine mkToRow ?_; (first | omega | (simp only [std, stdM]; omega) | grind)) | (refine mkTo_row ?_ rfl; (first | omega | (simp only [std, stdM]; omega) | grind)) | (refine mkTo_step ?_ ?_; (first | omega | (simp only [std, stdM]; omega) | grind); (first | grind [seqT_get hm, snocI, snocS, rowSnoc])) | grind [seqT_get hm, snocI, snocS, rowSnoc]))
theorem run_c_heldStringS (L : List ByteArray) (n : Int) : aexec Try.prog (Option.getD (Func.body Try.f158) Code.skip) (entry [] [ll (List.map strC L), li n] 22) [Orc.ghost
 (Ghost.sel [] [0, 1, 5]), Orc.loop (List.length L - 0) (Lc_heldStringSLa L n 0) (Ic_heldStringSLa L n) [(True, AEx.exit 0, W0c_heldStringSLa L n (li (n + (↑(List.length L) :
 Int))), [Orc.fin []]), (False, AEx.ret, W1c_heldStringSLa L n (li (-1 : Int)), [Orc.fin []])]] (finK Try.prog [ResultVar.tmp 4] [] (AV.sv (li (n + (↑(List.length L) : Int))))) =
 (Tc_heldStringSLa L n (li 0) (li n) = Lc_heldStringSLa L n 0 ∧ Ic_heldStringSLa L n (List.length L - 0) (Lc_heldStringSLa L n 0) ∧ LoopSem Try.prog (loopAt Try.f158 0)
 (Ic_heldStringSLa L n) (Yc_heldStringSLa L n) ∧ (True → ObsEq [] [] ∧ AV.sv (li (n + (↑(List.length L) : Int))) = AV.sv (li (n + (↑(List.length L) : Int)))) ∧ (False → ObsEq [] []
 ∧ AV.sv (li (-1 : Int)) = AV.sv (li (n + (↑(List.length L) : Int)))) ∧ True) := by kernel_rfl
theorem c_heldStringS (L : List ByteArray) (n : Int) (h0 : 0 ≤ n) (h : n + L.length ≤ 2147483647) (hm : seqM mkT cOne L n = L)  : P_c_heldStringS L n := by
  refine CallOK.ofRun wide (run_c_heldStringS L n) Try.call158 Try.func158 rfl rfl rfl ?_
  with_reducible repeat' (first | apply And.intro | exact flatI | exact flatS | exact rowLens | (intro; skip) | apply obsN | apply obsC | apply obA | apply obM | apply obB | apply svA | apply tupA | apply lcA | apply lcS | apply svC | apply liC | apply lbC | apply lsC | apply vIc | apply vBc | apply vSc | apply vLc | apply mapC | apply Hc_heldStringSLa | apply Ec_heldStringSLa | apply Sc_heldStringSLa | apply EW0c_heldStringSLa | apply EW1c_heldStringSLa | apply c_markText)
  all_goals (try simp only [std, stdM] at *)
  all_goals (try (first | with_reducible rfl | omega | assumption | (refine (decide_eq_true ?_).symm; assumption) | (refine (decide_eq_false ?_).symm; assumption) | (refine rowGet ?_; (first | omega | (simp only [std, stdM]; omega) | grind)) | (refine getC ?_ rfl; (first | omega | (simp only [std, stdM]; omega) | grind)) | (refine fill_step ?_ ?_; (first | omega | (simp only [std, stdM]; omega) | grind); (first | rfl | exact (Row.eq _).trans rfl)) | (refine fill_init ?_; (first | rfl | exact (Row.eq _).trans rfl)) | (refine set_row ?_; (simp only [List.length_map, List.length_set, mkTo_len]; omega)) | (refine mkToRow ?_; (first | omega | (simp only [std, stdM]; omega) | grind)) | (refine mkTo_row ?_ rfl; (first | omega | (simp only [std, stdM]; omega) | grind)) | (refine mkTo_step ?_ ?_; (first | omega | (simp only [std, stdM]; omega) | grind); (first | grind [snocI, snocS, rowSnoc])) | grind [snocI, snocS, rowSnoc]))

abbrev P_c_heldDatumS (x : Datum) (n : Int) : Prop := CallOK Try.prog 159 [] [ll (x.items.map datumC), li n] [] (.sv (li (n + sumBy cD x.items)))
def Tc_heldDatumS_sLa (x : Datum) (n : Int) (x0 : SV) (x1 : SV) : St := St.mk (regsOf 50 [(0, AV.sv (ll (List.map datumC (Datum.items x)))), (1, AV.sv x1), (5, AV.sv x0)]) [] 0 
def Lc_heldDatumS_sLa (x : Datum) (n : Int) (k : Nat) : St := Tc_heldDatumS_sLa x n (li (↑k : Int)) (li (n + (↑(sumBy cD (List.take k (Datum.items x))) : Int))) 
def Ic_heldDatumS_sLa (x : Datum) (n : Int) : Nat → St → Prop := Head (Lc_heldDatumS_sLa x n) (fun k => k ≤ List.length (Datum.items x) ∧ List.length (Datum.items x) ≤
 9223372036854775807) fun k => List.length (Datum.items x) - k 
def W0c_heldDatumS_sLa (x : Datum) (n : Int) (x0 : SV) : St := St.mk (regsOf 50 [(1, AV.sv x0)]) [] 0 
def W1c_heldDatumS_sLa (x : Datum) (n : Int) (x0 : SV) : St := St.mk (regsOf 50 [(4, AV.sv x0)]) [] 0 
def Yc_heldDatumS_sLa (x : Datum) (n : Int) : List (Prop × AEx × St) := [(True, AEx.exit 0, W0c_heldDatumS_sLa x n (li (n + (↑(sumBy cD (Datum.items x)) : Int)))), (False, AEx.ret,
 W1c_heldDatumS_sLa x n (li (-1 : Int)))]
theorem Hc_heldDatumS_sLa {x : Datum} {n : Int} {k : Nat} {m : Nat} (h : (fun k => k ≤ List.length (Datum.items x) ∧ List.length (Datum.items x) ≤ 9223372036854775807) k) (hm :
 (fun k => List.length (Datum.items x) - k) k = m) : Ic_heldDatumS_sLa x n m (Lc_heldDatumS_sLa x n k) := hm ▸ Head.mk h
theorem Ec_heldDatumS_sLa {x : Datum} {n : Int} {k : Nat} {x0 : SV} {x1 : SV} (h0 : x0 = (li (↑k : Int))) (h1 : x1 = (li (n + (↑(sumBy cD (List.take k (Datum.items x))) : Int)))) :
 Tc_heldDatumS_sLa x n x0 x1 = Lc_heldDatumS_sLa x n k := by
  rw [h0, h1]
  rfl
theorem EW0c_heldDatumS_sLa {x : Datum} {n : Int} {x0 y0 : SV} (h0 : x0 = y0) : W0c_heldDatumS_sLa x n x0 = W0c_heldDatumS_sLa x n y0 := by rw [h0]
theorem EW1c_heldDatumS_sLa {x : Datum} {n : Int} {x0 y0 : SV} (h0 : x0 = y0) : W1c_heldDatumS_sLa x n x0 = W1c_heldDatumS_sLa x n y0 := by rw [h0]
abbrev a1__heldDatumS_sLa (x : Datum) (k : Nat) := (↑(sumBy cD (List.take k (Datum.items x))) : Int)
abbrev a2__heldDatumS_sLa (x : Datum) (k : Nat) := (0 ≤ (↑k : Int) ∧ (List.map datumC (Datum.items x))[Int.toNat (↑k : Int)]? = some (datumF (List.getD (Datum.items x) k default)))
abbrev a3__heldDatumS_sLa (x : Datum) (n : Int) (k : Nat) := (li (n + (a1__heldDatumS_sLa x k) + 1 + 1 + 1 + (↑(sumBy cD (Datum.items (List.getD (Datum.items x) k default))) :
 Int)))
theorem run_c_heldDatumS_sLa (x : Datum) (n : Int) (k : Nat) : aexec Try.prog (loopAt Try.f159 0) (Lc_heldDatumS_sLa x n k) [Orc.br [Orc.cells (datumF (List.getD (Datum.items x) k
 default)), Orc.br [Orc.ghost (Ghost.sel [] [4]), Orc.out 1] [Orc.cells (datumF (List.getD (Datum.items x) k default)), Orc.br [Orc.ghost (Ghost.sel [] [4]), Orc.out 1] [Orc.draw
 [], Orc.cells (datumF (List.getD (Datum.items x) k default)), Orc.call [Mode.rd] [] (AV.sv (ls (mText (n + (a1__heldDatumS_sLa x k) + 1 + 1)))), Orc.br [Orc.ghost (Ghost.sel []
 [4]), Orc.out 1] [Orc.cells (datumF (List.getD (Datum.items x) k default)), Orc.call [Mode.rd, Mode.rd] [] (AV.sv (a3__heldDatumS_sLa x n k)), Orc.br [Orc.ghost (Ghost.sel []
 [4]), Orc.out 1] [Orc.ghost (Ghost.sel [] [0, 1, 5]), Orc.goto (List.length (Datum.items x) - (k + 1)) (Lc_heldDatumS_sLa x n (k + 1))]]]]] [Orc.ghost (Ghost.sel [] [1]), Orc.out
 0]] (loopK (Ic_heldDatumS_sLa x n) (Yc_heldDatumS_sLa x n) (List.length (Datum.items x) - k)) = (List.length (List.map datumC (Datum.items x)) ≤ 9223372036854775807 → (decide ((↑k
 : Int) < (↑(List.length (List.map datumC (Datum.items x))) : Int)) = true → (a2__heldDatumS_sLa x k) ∧ (decide (Datum.kind (List.getD (Datum.items x) k default) ≠ n +
 (a1__heldDatumS_sLa x k)) = true → False ∧ W1c_heldDatumS_sLa x n (li (-1 : Int)) = W1c_heldDatumS_sLa x n (li (-1 : Int))) ∧ (decide (Datum.kind (List.getD (Datum.items x) k
 default) ≠ n + (a1__heldDatumS_sLa x k)) = false → rng IntKind.i64 (n + (a1__heldDatumS_sLa x k) + 1) ∧ (a2__heldDatumS_sLa x k) ∧ (decide (Datum.number (List.getD (Datum.items x)
 k default) ≠ n + (a1__heldDatumS_sLa x k) + 1) = true → False ∧ W1c_heldDatumS_sLa x n (li (-1 : Int)) = W1c_heldDatumS_sLa x n (li (-1 : Int))) ∧ (decide (Datum.number (List.getD
 (Datum.items x) k default) ≠ n + (a1__heldDatumS_sLa x k) + 1) = false → rng IntKind.i64 (n + (a1__heldDatumS_sLa x k) + 1 + 1) ∧ (a2__heldDatumS_sLa x k) ∧ P_c_markText (n +
 (a1__heldDatumS_sLa x k) + 1 + 1) ∧ (decide (Array.toList (ByteArray.data (Datum.text (List.getD (Datum.items x) k default))) ≠ Array.toList (ByteArray.data (mText (n +
 (a1__heldDatumS_sLa x k) + 1 + 1)))) = true → False ∧ W1c_heldDatumS_sLa x n (li (-1 : Int)) = W1c_heldDatumS_sLa x n (li (-1 : Int))) ∧ (decide (Array.toList (ByteArray.data
 (Datum.text (List.getD (Datum.items x) k default))) ≠ Array.toList (ByteArray.data (mText (n + (a1__heldDatumS_sLa x k) + 1 + 1)))) = false → rng IntKind.i64 (n +
 (a1__heldDatumS_sLa x k) + 1 + 1 + 1) ∧ (a2__heldDatumS_sLa x k) ∧ CallOK Try.prog 159 [] [ll (List.map datumC (Datum.items (List.getD (Datum.items x) k default))), li (n +
 (a1__heldDatumS_sLa x k) + 1 + 1 + 1)] [] (AV.sv (a3__heldDatumS_sLa x n k)) ∧ (decide (n + (a1__heldDatumS_sLa x k) + 1 + 1 + 1 + (↑(sumBy cD (Datum.items (List.getD (Datum.items
 x) k default))) : Int) < 0) = true → False ∧ W1c_heldDatumS_sLa x n (li (-1 : Int)) = W1c_heldDatumS_sLa x n (li (-1 : Int))) ∧ (decide (n + (a1__heldDatumS_sLa x k) + 1 + 1 + 1 +
 (↑(sumBy cD (Datum.items (List.getD (Datum.items x) k default))) : Int) < 0) = false → rng IntKind.i64 ((↑k : Int) + 1) ∧ List.length (Datum.items x) - (k + 1) < List.length
 (Datum.items x) - k ∧ Tc_heldDatumS_sLa x n (li ((↑k : Int) + 1)) (a3__heldDatumS_sLa x n k) = Lc_heldDatumS_sLa x n (k + 1) ∧ Ic_heldDatumS_sLa x n (List.length (Datum.items x) -
 (k + 1)) (Lc_heldDatumS_sLa x n (k + 1))))))) ∧ (decide ((↑k : Int) < (↑(List.length (List.map datumC (Datum.items x))) : Int)) = false → True ∧ W0c_heldDatumS_sLa x n (li (n +
 (a1__heldDatumS_sLa x k))) = W0c_heldDatumS_sLa x n (li (n + (↑(sumBy cD (Datum.items x)) : Int))))) := by kernel_rfl
theorem Sc_heldDatumS_sLa (x : Datum) (n : Int) (h0 : 0 ≤ n) (h : n + (↑(sumBy cD (Datum.items x)) : Int) ≤ 2147483647) (hm : seqM mkD cD (Datum.items x) n = Datum.items x) (ih : ∀
 (z : Datum), z ∈ Datum.items x → ∀ (n : Int), 0 ≤ n → n + (↑(sumBy cD (Datum.items z)) : Int) ≤ 2147483647 → seqM mkD cD (Datum.items z) n = Datum.items z → P_c_heldDatumS z n)  :
 LoopSem Try.prog (loopAt Try.f159 0) (Ic_heldDatumS_sLa x n) (Yc_heldDatumS_sLa x n) := by
  refine LoopSem.ofHead wide fun k h => ⟨_, _, run_c_heldDatumS_sLa x n k, ?_⟩
  try delta a1__heldDatumS_sLa a2__heldDatumS_sLa a3__heldDatumS_sLa
  have g0 := sumBy_takeLe cD x.items (k + 1)
  have g1 := fun hk : k < x.items.length => mkD_fix (seqM_get hm hk)
  with_reducible repeat' (first | apply And.intro | exact flatI | exact flatS | exact rowLens | exact ih | (intro; skip) | apply obsN | apply obsC | apply obA | apply obM | apply obB | apply svA | apply tupA | apply lcA | apply lcS | apply svC | apply liC | apply lbC | apply lsC | apply vIc | apply vBc | apply vSc | apply vLc | apply mapC | apply Hc_heldDatumS_sLa | apply Ec_heldDatumS_sLa | apply EW0c_heldDatumS_sLa | apply EW1c_heldDatumS_sLa | apply c_markText | apply ih)
  all_goals (try simp only [std, stdM] at *)
  all_goals (try (first | with_reducible rfl | omega | assumption | (refine (decide_eq_true ?_).symm; assumption) | (refine (decide_eq_false ?_).symm; assumption) | (refine rowGet ?_; (first | omega | (simp only [std, stdM]; omega) | grind)) | (refine getC ?_ rfl; (first | omega | (simp only [std, stdM]; omega) | grind)) | (refine fill_step ?_ ?_; (first | omega | (simp only [std, stdM]; omega) | grind); (first | rfl | exact (Row.eq _).trans rfl)) | (refine fill_init ?_; (first | rfl | exact (Row.eq _).trans rfl)) | (refine set_row ?_; (simp only [List.length_map, List.length_set, mkTo_len]; omega)) | (refine mkToRow ?_; (first | omega | (simp only [std, stdM]; omega) | grind)) | (refine mkTo_row ?_ rfl; (first | omega | (simp only [std, stdM]; omega) | grind)) | (refine mkTo_step ?_ ?_; (first | omega | (simp only [std, stdM]; omega) | grind); (first | grind [sumBy_step, getD_mem', cD_eq, snocI, snocS, rowSnoc])) | grind [sumBy_step, getD_mem', cD_eq, snocI, snocS, rowSnoc]))
theorem run_c_heldDatumS_s (x : Datum) (n : Int) : aexec Try.prog (Option.getD (Func.body Try.f159) Code.skip) (entry [] [ll (List.map datumC (Datum.items x)), li n] 50) [Orc.ghost
 (Ghost.sel [] [0, 1, 5]), Orc.loop (List.length (Datum.items x) - 0) (Lc_heldDatumS_sLa x n 0) (Ic_heldDatumS_sLa x n) [(True, AEx.exit 0, W0c_heldDatumS_sLa x n (li (n + (↑(sumBy
 cD (Datum.items x)) : Int))), [Orc.fin []]), (False, AEx.ret, W1c_heldDatumS_sLa x n (li (-1 : Int)), [Orc.fin []])]] (finK Try.prog [ResultVar.tmp 4] [] (AV.sv (li (n + (↑(sumBy
 cD (Datum.items x)) : Int))))) = (Tc_heldDatumS_sLa x n (li 0) (li n) = Lc_heldDatumS_sLa x n 0 ∧ Ic_heldDatumS_sLa x n (List.length (Datum.items x) - 0) (Lc_heldDatumS_sLa x n 0)
 ∧ LoopSem Try.prog (loopAt Try.f159 0) (Ic_heldDatumS_sLa x n) (Yc_heldDatumS_sLa x n) ∧ (True → ObsEq [] [] ∧ AV.sv (li (n + (↑(sumBy cD (Datum.items x)) : Int))) = AV.sv (li (n
 + (↑(sumBy cD (Datum.items x)) : Int)))) ∧ (False → ObsEq [] [] ∧ AV.sv (li (-1 : Int)) = AV.sv (li (n + (↑(sumBy cD (Datum.items x)) : Int)))) ∧ True) := by kernel_rfl
theorem c_heldDatumS_s (x : Datum) (n : Int) (h0 : 0 ≤ n) (h : n + sumBy cD x.items ≤ 2147483647) (hm : seqM mkD cD x.items n = x.items) (ih : ∀ z ∈ x.items, ∀ (n : Int) (h0 : 0 ≤
 n) (h : n + sumBy cD z.items ≤ 2147483647) (hm : seqM mkD cD z.items n = z.items), P_c_heldDatumS z n)  : P_c_heldDatumS x n := by
  refine CallOK.ofRun wide (run_c_heldDatumS_s x n) Try.call159 Try.func159 rfl rfl rfl ?_
  have gl := cD_len x.items
  with_reducible repeat' (first | apply And.intro | exact flatI | exact flatS | exact rowLens | exact ih | (intro; skip) | apply obsN | apply obsC | apply obA | apply obM | apply obB | apply svA | apply tupA | apply lcA | apply lcS | apply svC | apply liC | apply lbC | apply lsC | apply vIc | apply vBc | apply vSc | apply vLc | apply mapC | apply Hc_heldDatumS_sLa | apply Ec_heldDatumS_sLa | apply Sc_heldDatumS_sLa | apply EW0c_heldDatumS_sLa | apply EW1c_heldDatumS_sLa | apply c_markText)
  all_goals (try simp only [std, stdM] at *)
  all_goals (try (first | with_reducible rfl | omega | assumption | (refine (decide_eq_true ?_).symm; assumption) | (refine (decide_eq_false ?_).symm; assumption) | (refine rowGet ?_; (first | omega | (simp only [std, stdM]; omega) | grind)) | (refine getC ?_ rfl; (first | omega | (simp only [std, stdM]; omega) | grind)) | (refine fill_step ?_ ?_; (first | omega | (simp only [std, stdM]; omega) | grind); (first | rfl | exact (Row.eq _).trans rfl)) | (refine fill_init ?_; (first | rfl | exact (Row.eq _).trans rfl)) | (refine set_row ?_; (simp only [List.length_map, List.length_set, mkTo_len]; omega)) | (refine mkToRow ?_; (first | omega | (simp only [std, stdM]; omega) | grind)) | (refine mkTo_row ?_ rfl; (first | omega | (simp only [std, stdM]; omega) | grind)) | (refine mkTo_step ?_ ?_; (first | omega | (simp only [std, stdM]; omega) | grind); (first | grind [mkTo_all, snocI, snocS, rowSnoc])) | grind [mkTo_all, snocI, snocS, rowSnoc]))
theorem c_heldDatumS (x : Datum) : ∀ (n : Int) (h0 : 0 ≤ n) (h : n + sumBy cD x.items ≤ 2147483647) (hm : seqM mkD cD x.items n = x.items), P_c_heldDatumS x n := Datum.ind (P := fun x => ∀ (n : Int) (h0 : 0 ≤ n) (h : n + sumBy cD x.items ≤ 2147483647) (hm : seqM mkD cD x.items n = x.items), P_c_heldDatumS x n) (fun x ih n h0 h hm => c_heldDatumS_s x n h0 h hm ih) x
theorem c_heldDatumSL (L : List Datum) (n : Int) (h0 : 0 ≤ n) (h : n + sumBy cD L ≤ 2147483647) (hm : seqM mkD cD L n = L) : P_c_heldDatumS { (default : Datum) with items := L } n := c_heldDatumS { (default : Datum) with items := L } n h0 h hm

abbrev P_c_heldDatum (x : Datum) (n : Int) : Prop := CallOK Try.prog 211 [] [.agg [vI x.kind, vI x.number, vS x.text, vL (x.items.map datumC)], li n] [] (.sv (li (n + sumBy cD x.items)))
theorem run_c_heldDatum (x : Datum) (n : Int) : aexec Try.prog (Option.getD (Func.body Try.f211) Code.skip) (entry [] [SV.agg [vI (Datum.kind x), vI (Datum.number x), vS
 (Datum.text x), vL (List.map datumC (Datum.items x))], li n] 12) [Orc.call [Mode.rd, Mode.rd] [] (AV.sv (li (n + (↑(sumBy cD (Datum.items x)) : Int)))), Orc.br [Orc.fin []]
 [Orc.fin []]] (finK Try.prog [ResultVar.tmp 4] [] (AV.sv (li (n + (↑(sumBy cD (Datum.items x)) : Int))))) = (CallOK Try.prog 159 [] [ll (List.map datumC (Datum.items x)), li n] []
 (AV.sv (li (n + (↑(sumBy cD (Datum.items x)) : Int)))) ∧ (decide (n + (↑(sumBy cD (Datum.items x)) : Int) < 0) = true → ObsEq [] [] ∧ AV.sv (li (-1 : Int)) = AV.sv (li (n +
 (↑(sumBy cD (Datum.items x)) : Int)))) ∧ (decide (n + (↑(sumBy cD (Datum.items x)) : Int) < 0) = false → ObsEq [] [] ∧ AV.sv (li (n + (↑(sumBy cD (Datum.items x)) : Int))) = AV.sv
 (li (n + (↑(sumBy cD (Datum.items x)) : Int))))) := by kernel_rfl
theorem c_heldDatum (x : Datum) (n : Int) (h0 : 0 ≤ n) (h : n + (sumBy cD x.items : Nat) ≤ 2147483647) (hm0 : seqM mkD cD x.items (n) = x.items)  : P_c_heldDatum x n := by
  refine CallOK.ofRun wide (run_c_heldDatum x n) Try.call211 Try.func211 rfl rfl rfl ?_
  with_reducible repeat' (first | apply And.intro | exact flatI | exact flatS | exact rowLens | (intro; skip) | apply obsN | apply obsC | apply obA | apply obM | apply obB | apply svA | apply tupA | apply lcA | apply lcS | apply svC | apply liC | apply lbC | apply lsC | apply vIc | apply vBc | apply vSc | apply vLc | apply mapC | apply c_heldDatumS | apply c_heldDatumSL)
  all_goals (try simp only [std, stdM] at *)
  all_goals (try (first | with_reducible rfl | omega | assumption | (refine (decide_eq_true ?_).symm; assumption) | (refine (decide_eq_false ?_).symm; assumption) | (refine rowGet ?_; (first | omega | (simp only [std, stdM]; omega) | grind)) | (refine getC ?_ rfl; (first | omega | (simp only [std, stdM]; omega) | grind)) | (refine fill_step ?_ ?_; (first | omega | (simp only [std, stdM]; omega) | grind); (first | rfl | exact (Row.eq _).trans rfl)) | (refine fill_init ?_; (first | rfl | exact (Row.eq _).trans rfl)) | (refine set_row ?_; (simp only [List.length_map, List.length_set, mkTo_len]; omega)) | (refine mkToRow ?_; (first | omega | (simp only [std, stdM]; omega) | grind)) | (refine mkTo_row ?_ rfl; (first | omega | (simp only [std, stdM]; omega) | grind)) | (refine mkTo_step ?_ ?_; (first | omega | (simp only [std, stdM]; omega) | grind); (first | grind [snocI, snocS, rowSnoc])) | grind [snocI, snocS, rowSnoc]))

abbrev P_c_heldCoreS (x : Core) (n : Int) : Prop := CallOK Try.prog 212 [] [ll (x.kids.map coreC), li n] [] (.sv (li (n + sumBy cC x.kids)))
def Tc_heldCoreS_sLa (x : Core) (n : Int) (x0 : SV) (x1 : SV) : St := St.mk (regsOf 90 [(0, AV.sv (ll (List.map coreC (Core.kids x)))), (1, AV.sv x1), (5, AV.sv x0)]) [] 0 
def Lc_heldCoreS_sLa (x : Core) (n : Int) (k : Nat) : St := Tc_heldCoreS_sLa x n (li (↑k : Int)) (li (n + (↑(sumBy cC (List.take k (Core.kids x))) : Int))) 
def Ic_heldCoreS_sLa (x : Core) (n : Int) : Nat → St → Prop := Head (Lc_heldCoreS_sLa x n) (fun k => k ≤ List.length (Core.kids x) ∧ List.length (Core.kids x) ≤
 9223372036854775807) fun k => List.length (Core.kids x) - k 
def W0c_heldCoreS_sLa (x : Core) (n : Int) (x0 : SV) : St := St.mk (regsOf 90 [(1, AV.sv x0)]) [] 0 
def W1c_heldCoreS_sLa (x : Core) (n : Int) (x0 : SV) : St := St.mk (regsOf 90 [(4, AV.sv x0)]) [] 0 
def Yc_heldCoreS_sLa (x : Core) (n : Int) : List (Prop × AEx × St) := [(True, AEx.exit 0, W0c_heldCoreS_sLa x n (li (n + (↑(sumBy cC (Core.kids x)) : Int)))), (False, AEx.ret,
 W1c_heldCoreS_sLa x n (li (-1 : Int)))]
theorem Hc_heldCoreS_sLa {x : Core} {n : Int} {k : Nat} {m : Nat} (h : (fun k => k ≤ List.length (Core.kids x) ∧ List.length (Core.kids x) ≤ 9223372036854775807) k) (hm : (fun k =>
 List.length (Core.kids x) - k) k = m) : Ic_heldCoreS_sLa x n m (Lc_heldCoreS_sLa x n k) := hm ▸ Head.mk h
theorem Ec_heldCoreS_sLa {x : Core} {n : Int} {k : Nat} {x0 : SV} {x1 : SV} (h0 : x0 = (li (↑k : Int))) (h1 : x1 = (li (n + (↑(sumBy cC (List.take k (Core.kids x))) : Int)))) :
 Tc_heldCoreS_sLa x n x0 x1 = Lc_heldCoreS_sLa x n k := by
  rw [h0, h1]
  rfl
theorem EW0c_heldCoreS_sLa {x : Core} {n : Int} {x0 y0 : SV} (h0 : x0 = y0) : W0c_heldCoreS_sLa x n x0 = W0c_heldCoreS_sLa x n y0 := by rw [h0]
theorem EW1c_heldCoreS_sLa {x : Core} {n : Int} {x0 y0 : SV} (h0 : x0 = y0) : W1c_heldCoreS_sLa x n x0 = W1c_heldCoreS_sLa x n y0 := by rw [h0]
abbrev a1__heldCoreS_sLa (x : Core) (k : Nat) := (↑(List.length (Core.params (List.getD (Core.kids x) k default))) : Int)
abbrev a2__heldCoreS_sLa (x : Core) (k : Nat) := (↑(sumBy cC (List.take k (Core.kids x))) : Int)
abbrev a10__heldCoreS_sLa (x : Core) (k : Nat) := (coreF (List.getD (Core.kids x) k default))
abbrev a3__heldCoreS_sLa (x : Core) (k : Nat) := (0 ≤ (↑k : Int) ∧ (List.map coreC (Core.kids x))[Int.toNat (↑k : Int)]? = some (a10__heldCoreS_sLa x k))
abbrev a9__heldCoreS_sLa (x : Core) (k : Nat) := (Core.datum (List.getD (Core.kids x) k default))
abbrev a4__heldCoreS_sLa (x : Core) (k : Nat) := (↑(sumBy cD (Datum.items (a9__heldCoreS_sLa x k))) : Int)
abbrev a5__heldCoreS_sLa (x : Core) (n : Int) (k : Nat) := (li (n + (a2__heldCoreS_sLa x k) + 1 + 1 + (a1__heldCoreS_sLa x k) + 1 + 1 + 1 + (a4__heldCoreS_sLa x k) + (↑(sumBy cC
 (Core.kids (List.getD (Core.kids x) k default))) : Int)))
abbrev a6__heldCoreS_sLa (x : Core) (n : Int) (k : Nat) := (n + (a2__heldCoreS_sLa x k) + 1 + 1 + (a1__heldCoreS_sLa x k) + 1 + 1)
abbrev a7__heldCoreS_sLa  := [Orc.ghost (Ghost.sel [] [4]), Orc.out 1]
abbrev a8__heldCoreS_sLa (x : Core) (n : Int) (k : Nat) := (n + (a2__heldCoreS_sLa x k) + 1 + 1 + (a1__heldCoreS_sLa x k) + 1 + 1 + 1 + (a4__heldCoreS_sLa x k))
theorem run_c_heldCoreS_sLa (x : Core) (n : Int) (k : Nat) : aexec Try.prog (loopAt Try.f212 0) (Lc_heldCoreS_sLa x n k) [Orc.br [Orc.cells (a10__heldCoreS_sLa x k), Orc.br
 a7__heldCoreS_sLa [Orc.cells (a10__heldCoreS_sLa x k), Orc.br a7__heldCoreS_sLa [Orc.cells (a10__heldCoreS_sLa x k), Orc.call [Mode.rd, Mode.rd] [] (AV.sv (li (n +
 (a2__heldCoreS_sLa x k) + 1 + 1 + (a1__heldCoreS_sLa x k)))), Orc.br a7__heldCoreS_sLa [Orc.cells (a10__heldCoreS_sLa x k), Orc.br a7__heldCoreS_sLa [Orc.cells (a10__heldCoreS_sLa
 x k), Orc.br a7__heldCoreS_sLa [Orc.draw [], Orc.cells (a10__heldCoreS_sLa x k), Orc.call [Mode.rd] [] (AV.sv (ls (mText (a6__heldCoreS_sLa x n k)))), Orc.br a7__heldCoreS_sLa
 [Orc.cells (a10__heldCoreS_sLa x k), Orc.call [Mode.rd, Mode.rd] [] (AV.sv (li (a8__heldCoreS_sLa x n k))), Orc.br a7__heldCoreS_sLa [Orc.cells (a10__heldCoreS_sLa x k), Orc.call
 [Mode.rd, Mode.rd] [] (AV.sv (a5__heldCoreS_sLa x n k)), Orc.br a7__heldCoreS_sLa [Orc.ghost (Ghost.sel [] [0, 1, 5]), Orc.goto (List.length (Core.kids x) - (k + 1))
 (Lc_heldCoreS_sLa x n (k + 1))]]]]]]]]] [Orc.ghost (Ghost.sel [] [1]), Orc.out 0]] (loopK (Ic_heldCoreS_sLa x n) (Yc_heldCoreS_sLa x n) (List.length (Core.kids x) - k)) =
 (List.length (List.map coreC (Core.kids x)) ≤ 9223372036854775807 → (decide ((↑k : Int) < (↑(List.length (List.map coreC (Core.kids x))) : Int)) = true → (a3__heldCoreS_sLa x k) ∧
 (decide (Core.kind (List.getD (Core.kids x) k default) ≠ n + (a2__heldCoreS_sLa x k)) = true → False ∧ W1c_heldCoreS_sLa x n (li (-1 : Int)) = W1c_heldCoreS_sLa x n (li (-1 :
 Int))) ∧ (decide (Core.kind (List.getD (Core.kids x) k default) ≠ n + (a2__heldCoreS_sLa x k)) = false → rng IntKind.i64 (n + (a2__heldCoreS_sLa x k) + 1) ∧ (a3__heldCoreS_sLa x
 k) ∧ (decide (Core.number (List.getD (Core.kids x) k default) ≠ n + (a2__heldCoreS_sLa x k) + 1) = true → False ∧ W1c_heldCoreS_sLa x n (li (-1 : Int)) = W1c_heldCoreS_sLa x n (li
 (-1 : Int))) ∧ (decide (Core.number (List.getD (Core.kids x) k default) ≠ n + (a2__heldCoreS_sLa x k) + 1) = false → rng IntKind.i64 (n + (a2__heldCoreS_sLa x k) + 1 + 1) ∧
 (a3__heldCoreS_sLa x k) ∧ P_c_heldIntS (Core.params (List.getD (Core.kids x) k default)) (n + (a2__heldCoreS_sLa x k) + 1 + 1) ∧ (decide (n + (a2__heldCoreS_sLa x k) + 1 + 1 +
 (a1__heldCoreS_sLa x k) < 0) = true → False ∧ W1c_heldCoreS_sLa x n (li (-1 : Int)) = W1c_heldCoreS_sLa x n (li (-1 : Int))) ∧ (decide (n + (a2__heldCoreS_sLa x k) + 1 + 1 +
 (a1__heldCoreS_sLa x k) < 0) = false → (a3__heldCoreS_sLa x k) ∧ (decide (Datum.kind (a9__heldCoreS_sLa x k) ≠ n + (a2__heldCoreS_sLa x k) + 1 + 1 + (a1__heldCoreS_sLa x k)) =
 true → False ∧ W1c_heldCoreS_sLa x n (li (-1 : Int)) = W1c_heldCoreS_sLa x n (li (-1 : Int))) ∧ (decide (Datum.kind (a9__heldCoreS_sLa x k) ≠ n + (a2__heldCoreS_sLa x k) + 1 + 1 +
 (a1__heldCoreS_sLa x k)) = false → rng IntKind.i64 (n + (a2__heldCoreS_sLa x k) + 1 + 1 + (a1__heldCoreS_sLa x k) + 1) ∧ (a3__heldCoreS_sLa x k) ∧ (decide (Datum.number
 (a9__heldCoreS_sLa x k) ≠ n + (a2__heldCoreS_sLa x k) + 1 + 1 + (a1__heldCoreS_sLa x k) + 1) = true → False ∧ W1c_heldCoreS_sLa x n (li (-1 : Int)) = W1c_heldCoreS_sLa x n (li (-1
 : Int))) ∧ (decide (Datum.number (a9__heldCoreS_sLa x k) ≠ n + (a2__heldCoreS_sLa x k) + 1 + 1 + (a1__heldCoreS_sLa x k) + 1) = false → rng IntKind.i64 (a6__heldCoreS_sLa x n k) ∧
 (a3__heldCoreS_sLa x k) ∧ P_c_markText (a6__heldCoreS_sLa x n k) ∧ (decide (Array.toList (ByteArray.data (Datum.text (a9__heldCoreS_sLa x k))) ≠ Array.toList (ByteArray.data
 (mText (a6__heldCoreS_sLa x n k)))) = true → False ∧ W1c_heldCoreS_sLa x n (li (-1 : Int)) = W1c_heldCoreS_sLa x n (li (-1 : Int))) ∧ (decide (Array.toList (ByteArray.data
 (Datum.text (a9__heldCoreS_sLa x k))) ≠ Array.toList (ByteArray.data (mText (a6__heldCoreS_sLa x n k)))) = false → rng IntKind.i64 (n + (a2__heldCoreS_sLa x k) + 1 + 1 +
 (a1__heldCoreS_sLa x k) + 1 + 1 + 1) ∧ (a3__heldCoreS_sLa x k) ∧ CallOK Try.prog 159 [] [ll (List.map datumC (Datum.items (a9__heldCoreS_sLa x k))), li (n + (a2__heldCoreS_sLa x
 k) + 1 + 1 + (a1__heldCoreS_sLa x k) + 1 + 1 + 1)] [] (AV.sv (li (a8__heldCoreS_sLa x n k))) ∧ (decide (n + (a2__heldCoreS_sLa x k) + 1 + 1 + (a1__heldCoreS_sLa x k) + 1 + 1 + 1 +
 (a4__heldCoreS_sLa x k) < 0) = true → False ∧ W1c_heldCoreS_sLa x n (li (-1 : Int)) = W1c_heldCoreS_sLa x n (li (-1 : Int))) ∧ (decide (n + (a2__heldCoreS_sLa x k) + 1 + 1 +
 (a1__heldCoreS_sLa x k) + 1 + 1 + 1 + (a4__heldCoreS_sLa x k) < 0) = false → (a3__heldCoreS_sLa x k) ∧ CallOK Try.prog 212 [] [ll (List.map coreC (Core.kids (List.getD (Core.kids
 x) k default))), li (a8__heldCoreS_sLa x n k)] [] (AV.sv (a5__heldCoreS_sLa x n k)) ∧ (decide (n + (a2__heldCoreS_sLa x k) + 1 + 1 + (a1__heldCoreS_sLa x k) + 1 + 1 + 1 +
 (a4__heldCoreS_sLa x k) + (↑(sumBy cC (Core.kids (List.getD (Core.kids x) k default))) : Int) < 0) = true → False ∧ W1c_heldCoreS_sLa x n (li (-1 : Int)) = W1c_heldCoreS_sLa x n
 (li (-1 : Int))) ∧ (decide (n + (a2__heldCoreS_sLa x k) + 1 + 1 + (a1__heldCoreS_sLa x k) + 1 + 1 + 1 + (a4__heldCoreS_sLa x k) + (↑(sumBy cC (Core.kids (List.getD (Core.kids x) k
 default))) : Int) < 0) = false → rng IntKind.i64 ((↑k : Int) + 1) ∧ List.length (Core.kids x) - (k + 1) < List.length (Core.kids x) - k ∧ Tc_heldCoreS_sLa x n (li ((↑k : Int) +
 1)) (a5__heldCoreS_sLa x n k) = Lc_heldCoreS_sLa x n (k + 1) ∧ Ic_heldCoreS_sLa x n (List.length (Core.kids x) - (k + 1)) (Lc_heldCoreS_sLa x n (k + 1))))))))))) ∧ (decide ((↑k :
 Int) < (↑(List.length (List.map coreC (Core.kids x))) : Int)) = false → True ∧ W0c_heldCoreS_sLa x n (li (n + (a2__heldCoreS_sLa x k))) = W0c_heldCoreS_sLa x n (li (n + (↑(sumBy
 cC (Core.kids x)) : Int))))) := by kernel_rfl
theorem Sc_heldCoreS_sLa (x : Core) (n : Int) (h0 : 0 ≤ n) (h : n + (↑(sumBy cC (Core.kids x)) : Int) ≤ 2147483647) (hm : seqM mkC cC (Core.kids x) n = Core.kids x) (ih : ∀ (z :
 Core), z ∈ Core.kids x → ∀ (n : Int), 0 ≤ n → n + (↑(sumBy cC (Core.kids z)) : Int) ≤ 2147483647 → seqM mkC cC (Core.kids z) n = Core.kids z → P_c_heldCoreS z n)  : LoopSem
 Try.prog (loopAt Try.f212 0) (Ic_heldCoreS_sLa x n) (Yc_heldCoreS_sLa x n) := by
  refine LoopSem.ofHead wide fun k h => ⟨_, _, run_c_heldCoreS_sLa x n k, ?_⟩
  try delta a1__heldCoreS_sLa a2__heldCoreS_sLa a10__heldCoreS_sLa a3__heldCoreS_sLa a9__heldCoreS_sLa a4__heldCoreS_sLa a5__heldCoreS_sLa a6__heldCoreS_sLa a7__heldCoreS_sLa a8__heldCoreS_sLa
  have g0 := sumBy_takeLe cC x.kids (k + 1)
  have g1 := fun hk : k < x.kids.length => mkC_fix (seqM_get hm hk)
  with_reducible repeat' (first | apply And.intro | exact flatI | exact flatS | exact rowLens | exact ih | (intro; skip) | apply obsN | apply obsC | apply obA | apply obM | apply obB | apply svA | apply tupA | apply lcA | apply lcS | apply svC | apply liC | apply lbC | apply lsC | apply vIc | apply vBc | apply vSc | apply vLc | apply mapC | apply Hc_heldCoreS_sLa | apply Ec_heldCoreS_sLa | apply EW0c_heldCoreS_sLa | apply EW1c_heldCoreS_sLa | apply c_heldIntS | apply c_markText | apply c_heldDatumS | apply c_heldDatumSL | apply ih)
  all_goals (try simp only [std, stdM] at *)
  all_goals (try (first | with_reducible rfl | omega | assumption | (refine (decide_eq_true ?_).symm; assumption) | (refine (decide_eq_false ?_).symm; assumption) | (refine rowGet ?_; (first | omega | (simp only [std, stdM]; omega) | grind)) | (refine getC ?_ rfl; (first | omega | (simp only [std, stdM]; omega) | grind)) | (refine fill_step ?_ ?_; (first | omega | (simp only [std, stdM]; omega) | grind); (first | rfl | exact (Row.eq _).trans rfl)) | (refine fill_init ?_; (first | rfl | exact (Row.eq _).trans rfl)) | (refine set_row ?_; (simp only [List.length_map, List.length_set, mkTo_len]; omega)) | (refine mkToRow ?_; (first | omega | (simp only [std, stdM]; omega) | grind)) | (refine mkTo_row ?_ rfl; (first | omega | (simp only [std, stdM]; omega) | grind)) | (refine mkTo_step ?_ ?_; (first | omega | (simp only [std, stdM]; omega) | grind); (first | grind [sumBy_step, getD_mem', cC_eq, snocI, snocS, rowSnoc])) | grind [sumBy_step, getD_mem', cC_eq, snocI, snocS, rowSnoc]))
theorem run_c_heldCoreS_s (x : Core) (n : Int) : aexec Try.prog (Option.getD (Func.body Try.f212) Code.skip) (entry [] [ll (List.map coreC (Core.kids x)), li n] 90) [Orc.ghost
 (Ghost.sel [] [0, 1, 5]), Orc.loop (List.length (Core.kids x) - 0) (Lc_heldCoreS_sLa x n 0) (Ic_heldCoreS_sLa x n) [(True, AEx.exit 0, W0c_heldCoreS_sLa x n (li (n + (↑(sumBy cC
 (Core.kids x)) : Int))), [Orc.fin []]), (False, AEx.ret, W1c_heldCoreS_sLa x n (li (-1 : Int)), [Orc.fin []])]] (finK Try.prog [ResultVar.tmp 4] [] (AV.sv (li (n + (↑(sumBy cC
 (Core.kids x)) : Int))))) = (Tc_heldCoreS_sLa x n (li 0) (li n) = Lc_heldCoreS_sLa x n 0 ∧ Ic_heldCoreS_sLa x n (List.length (Core.kids x) - 0) (Lc_heldCoreS_sLa x n 0) ∧ LoopSem
 Try.prog (loopAt Try.f212 0) (Ic_heldCoreS_sLa x n) (Yc_heldCoreS_sLa x n) ∧ (True → ObsEq [] [] ∧ AV.sv (li (n + (↑(sumBy cC (Core.kids x)) : Int))) = AV.sv (li (n + (↑(sumBy cC
 (Core.kids x)) : Int)))) ∧ (False → ObsEq [] [] ∧ AV.sv (li (-1 : Int)) = AV.sv (li (n + (↑(sumBy cC (Core.kids x)) : Int)))) ∧ True) := by kernel_rfl
theorem c_heldCoreS_s (x : Core) (n : Int) (h0 : 0 ≤ n) (h : n + sumBy cC x.kids ≤ 2147483647) (hm : seqM mkC cC x.kids n = x.kids) (ih : ∀ z ∈ x.kids, ∀ (n : Int) (h0 : 0 ≤ n) (h
 : n + sumBy cC z.kids ≤ 2147483647) (hm : seqM mkC cC z.kids n = z.kids), P_c_heldCoreS z n)  : P_c_heldCoreS x n := by
  refine CallOK.ofRun wide (run_c_heldCoreS_s x n) Try.call212 Try.func212 rfl rfl rfl ?_
  have gl := cC_len x.kids
  with_reducible repeat' (first | apply And.intro | exact flatI | exact flatS | exact rowLens | exact ih | (intro; skip) | apply obsN | apply obsC | apply obA | apply obM | apply obB | apply svA | apply tupA | apply lcA | apply lcS | apply svC | apply liC | apply lbC | apply lsC | apply vIc | apply vBc | apply vSc | apply vLc | apply mapC | apply Hc_heldCoreS_sLa | apply Ec_heldCoreS_sLa | apply Sc_heldCoreS_sLa | apply EW0c_heldCoreS_sLa | apply EW1c_heldCoreS_sLa | apply c_heldIntS | apply c_markText | apply c_heldDatumS | apply c_heldDatumSL)
  all_goals (try simp only [std, stdM] at *)
  all_goals (try (first | with_reducible rfl | omega | assumption | (refine (decide_eq_true ?_).symm; assumption) | (refine (decide_eq_false ?_).symm; assumption) | (refine rowGet ?_; (first | omega | (simp only [std, stdM]; omega) | grind)) | (refine getC ?_ rfl; (first | omega | (simp only [std, stdM]; omega) | grind)) | (refine fill_step ?_ ?_; (first | omega | (simp only [std, stdM]; omega) | grind); (first | rfl | exact (Row.eq _).trans rfl)) | (refine fill_init ?_; (first | rfl | exact (Row.eq _).trans rfl)) | (refine set_row ?_; (simp only [List.length_map, List.length_set, mkTo_len]; omega)) | (refine mkToRow ?_; (first | omega | (simp only [std, stdM]; omega) | grind)) | (refine mkTo_row ?_ rfl; (first | omega | (simp only [std, stdM]; omega) | grind)) | (refine mkTo_step ?_ ?_; (first | omega | (simp only [std, stdM]; omega) | grind); (first | grind [mkTo_all, snocI, snocS, rowSnoc])) | grind [mkTo_all, snocI, snocS, rowSnoc]))
theorem c_heldCoreS (x : Core) : ∀ (n : Int) (h0 : 0 ≤ n) (h : n + sumBy cC x.kids ≤ 2147483647) (hm : seqM mkC cC x.kids n = x.kids), P_c_heldCoreS x n := Core.ind (P := fun x => ∀ (n : Int) (h0 : 0 ≤ n) (h : n + sumBy cC x.kids ≤ 2147483647) (hm : seqM mkC cC x.kids n = x.kids), P_c_heldCoreS x n) (fun x ih n h0 h hm => c_heldCoreS_s x n h0 h hm ih) x
theorem c_heldCoreSL (L : List Core) (n : Int) (h0 : 0 ≤ n) (h : n + sumBy cC L ≤ 2147483647) (hm : seqM mkC cC L n = L) : P_c_heldCoreS { (default : Core) with kids := L } n := c_heldCoreS { (default : Core) with kids := L } n h0 h hm

abbrev P_c_heldCore (x : Core) (n : Int) : Prop := CallOK Try.prog 107 [] [.agg [vI x.kind, vI x.number, vL (x.params.map intC), vI x.datum.kind, vI x.datum.number, vS x.datum.text, vL (x.datum.items.map datumC), vL (x.kids.map coreC)], li n] [] (.sv (li (n + x.params.length + sumBy cD x.datum.items + sumBy cC x.kids)))
theorem run_c_heldCore (x : Core) (n : Int) : aexec Try.prog (Option.getD (Func.body Try.f107) Code.skip) (entry [] [SV.agg [vI (Core.kind x), vI (Core.number x), vL (List.map intC
 (Core.params x)), vI (Datum.kind (Core.datum x)), vI (Datum.number (Core.datum x)), vS (Datum.text (Core.datum x)), vL (List.map datumC (Datum.items (Core.datum x))), vL (List.map
 coreC (Core.kids x))], li n] 24) [Orc.call [Mode.rd, Mode.rd] [] (AV.sv (li (n + (↑(List.length (Core.params x)) : Int)))), Orc.br [Orc.fin []] [Orc.call [Mode.rd, Mode.rd] []
 (AV.sv (li (n + (↑(List.length (Core.params x)) : Int) + (↑(sumBy cD (Datum.items (Core.datum x))) : Int)))), Orc.br [Orc.fin []] [Orc.call [Mode.rd, Mode.rd] [] (AV.sv (li (n +
 (↑(List.length (Core.params x)) : Int) + (↑(sumBy cD (Datum.items (Core.datum x))) : Int) + (↑(sumBy cC (Core.kids x)) : Int)))), Orc.br [Orc.fin []] [Orc.fin []]]]] (finK
 Try.prog [ResultVar.tmp 4] [] (AV.sv (li (n + (↑(List.length (Core.params x)) : Int) + (↑(sumBy cD (Datum.items (Core.datum x))) : Int) + (↑(sumBy cC (Core.kids x)) : Int))))) =
 (P_c_heldIntS (Core.params x) n ∧ (decide (n + (↑(List.length (Core.params x)) : Int) < 0) = true → ObsEq [] [] ∧ AV.sv (li (-1 : Int)) = AV.sv (li (n + (↑(List.length
 (Core.params x)) : Int) + (↑(sumBy cD (Datum.items (Core.datum x))) : Int) + (↑(sumBy cC (Core.kids x)) : Int)))) ∧ (decide (n + (↑(List.length (Core.params x)) : Int) < 0) =
 false → P_c_heldDatum (Core.datum x) (n + (↑(List.length (Core.params x)) : Int)) ∧ (decide (n + (↑(List.length (Core.params x)) : Int) + (↑(sumBy cD (Datum.items (Core.datum x)))
 : Int) < 0) = true → ObsEq [] [] ∧ AV.sv (li (-1 : Int)) = AV.sv (li (n + (↑(List.length (Core.params x)) : Int) + (↑(sumBy cD (Datum.items (Core.datum x))) : Int) + (↑(sumBy cC
 (Core.kids x)) : Int)))) ∧ (decide (n + (↑(List.length (Core.params x)) : Int) + (↑(sumBy cD (Datum.items (Core.datum x))) : Int) < 0) = false → CallOK Try.prog 212 [] [ll
 (List.map coreC (Core.kids x)), li (n + (↑(List.length (Core.params x)) : Int) + (↑(sumBy cD (Datum.items (Core.datum x))) : Int))] [] (AV.sv (li (n + (↑(List.length (Core.params
 x)) : Int) + (↑(sumBy cD (Datum.items (Core.datum x))) : Int) + (↑(sumBy cC (Core.kids x)) : Int)))) ∧ (decide (n + (↑(List.length (Core.params x)) : Int) + (↑(sumBy cD
 (Datum.items (Core.datum x))) : Int) + (↑(sumBy cC (Core.kids x)) : Int) < 0) = true → ObsEq [] [] ∧ AV.sv (li (-1 : Int)) = AV.sv (li (n + (↑(List.length (Core.params x)) : Int)
 + (↑(sumBy cD (Datum.items (Core.datum x))) : Int) + (↑(sumBy cC (Core.kids x)) : Int)))) ∧ (decide (n + (↑(List.length (Core.params x)) : Int) + (↑(sumBy cD (Datum.items
 (Core.datum x))) : Int) + (↑(sumBy cC (Core.kids x)) : Int) < 0) = false → ObsEq [] [] ∧ AV.sv (li (n + (↑(List.length (Core.params x)) : Int) + (↑(sumBy cD (Datum.items
 (Core.datum x))) : Int) + (↑(sumBy cC (Core.kids x)) : Int))) = AV.sv (li (n + (↑(List.length (Core.params x)) : Int) + (↑(sumBy cD (Datum.items (Core.datum x))) : Int) + (↑(sumBy
 cC (Core.kids x)) : Int))))))) := by kernel_rfl
theorem c_heldCore (x : Core) (n : Int) (h0 : 0 ≤ n) (h : n + (x.params.length + sumBy cD x.datum.items + sumBy cC x.kids : Nat) ≤ 2147483647) (hm0 : seqM mkI cOne x.params (n) =
 x.params) (hm1 : seqM mkD cD x.datum.items (n + x.params.length) = x.datum.items) (hm2 : seqM mkC cC x.kids (n + x.params.length + sumBy cD x.datum.items) = x.kids)  :
 P_c_heldCore x n := by
  refine CallOK.ofRun wide (run_c_heldCore x n) Try.call107 Try.func107 rfl rfl rfl ?_
  with_reducible repeat' (first | apply And.intro | exact flatI | exact flatS | exact rowLens | (intro; skip) | apply obsN | apply obsC | apply obA | apply obM | apply obB | apply svA | apply tupA | apply lcA | apply lcS | apply svC | apply liC | apply lbC | apply lsC | apply vIc | apply vBc | apply vSc | apply vLc | apply mapC | apply c_heldIntS | apply c_heldDatum | apply c_heldCoreS | apply c_heldCoreSL)
  all_goals (try simp only [std, stdM] at *)
  all_goals (try (first | with_reducible rfl | omega | assumption | (refine (decide_eq_true ?_).symm; assumption) | (refine (decide_eq_false ?_).symm; assumption) | (refine rowGet ?_; (first | omega | (simp only [std, stdM]; omega) | grind)) | (refine getC ?_ rfl; (first | omega | (simp only [std, stdM]; omega) | grind)) | (refine fill_step ?_ ?_; (first | omega | (simp only [std, stdM]; omega) | grind); (first | rfl | exact (Row.eq _).trans rfl)) | (refine fill_init ?_; (first | rfl | exact (Row.eq _).trans rfl)) | (refine set_row ?_; (simp only [List.length_map, List.length_set, mkTo_len]; omega)) | (refine mkToRow ?_; (first | omega | (simp only [std, stdM]; omega) | grind)) | (refine mkTo_row ?_ rfl; (first | omega | (simp only [std, stdM]; omega) | grind)) | (refine mkTo_step ?_ ?_; (first | omega | (simp only [std, stdM]; omega) | grind); (first | grind [snocI, snocS, rowSnoc])) | grind [snocI, snocS, rowSnoc]))

abbrev P_c_heldSyntaxS (x : Syntax) (n : Int) : Prop := CallOK Try.prog 196 [] [ll (x.items.map syntaxC), li n] [] (.sv (li (n + sumBy cY x.items)))
def Tc_heldSyntaxS_sLa (x : Syntax) (n : Int) (x0 : SV) (x1 : SV) : St := St.mk (regsOf 59 [(0, AV.sv (ll (List.map syntaxC (Syntax.items x)))), (1, AV.sv x1), (5, AV.sv x0)]) [] 0
 
def Lc_heldSyntaxS_sLa (x : Syntax) (n : Int) (k : Nat) : St := Tc_heldSyntaxS_sLa x n (li (↑k : Int)) (li (n + (↑(sumBy cY (List.take k (Syntax.items x))) : Int))) 
def Ic_heldSyntaxS_sLa (x : Syntax) (n : Int) : Nat → St → Prop := Head (Lc_heldSyntaxS_sLa x n) (fun k => k ≤ List.length (Syntax.items x) ∧ List.length (Syntax.items x) ≤
 9223372036854775807) fun k => List.length (Syntax.items x) - k 
def W0c_heldSyntaxS_sLa (x : Syntax) (n : Int) (x0 : SV) : St := St.mk (regsOf 59 [(1, AV.sv x0)]) [] 0 
def W1c_heldSyntaxS_sLa (x : Syntax) (n : Int) (x0 : SV) : St := St.mk (regsOf 59 [(4, AV.sv x0)]) [] 0 
def Yc_heldSyntaxS_sLa (x : Syntax) (n : Int) : List (Prop × AEx × St) := [(True, AEx.exit 0, W0c_heldSyntaxS_sLa x n (li (n + (↑(sumBy cY (Syntax.items x)) : Int)))), (False,
 AEx.ret, W1c_heldSyntaxS_sLa x n (li (-1 : Int)))]
theorem Hc_heldSyntaxS_sLa {x : Syntax} {n : Int} {k : Nat} {m : Nat} (h : (fun k => k ≤ List.length (Syntax.items x) ∧ List.length (Syntax.items x) ≤ 9223372036854775807) k) (hm :
 (fun k => List.length (Syntax.items x) - k) k = m) : Ic_heldSyntaxS_sLa x n m (Lc_heldSyntaxS_sLa x n k) := hm ▸ Head.mk h
theorem Ec_heldSyntaxS_sLa {x : Syntax} {n : Int} {k : Nat} {x0 : SV} {x1 : SV} (h0 : x0 = (li (↑k : Int))) (h1 : x1 = (li (n + (↑(sumBy cY (List.take k (Syntax.items x))) :
 Int)))) : Tc_heldSyntaxS_sLa x n x0 x1 = Lc_heldSyntaxS_sLa x n k := by
  rw [h0, h1]
  rfl
theorem EW0c_heldSyntaxS_sLa {x : Syntax} {n : Int} {x0 y0 : SV} (h0 : x0 = y0) : W0c_heldSyntaxS_sLa x n x0 = W0c_heldSyntaxS_sLa x n y0 := by rw [h0]
theorem EW1c_heldSyntaxS_sLa {x : Syntax} {n : Int} {x0 y0 : SV} (h0 : x0 = y0) : W1c_heldSyntaxS_sLa x n x0 = W1c_heldSyntaxS_sLa x n y0 := by rw [h0]
abbrev a1__heldSyntaxS_sLa (x : Syntax) (k : Nat) := (↑(sumBy cY (List.take k (Syntax.items x))) : Int)
abbrev a2__heldSyntaxS_sLa (x : Syntax) (k : Nat) := (0 ≤ (↑k : Int) ∧ (List.map syntaxC (Syntax.items x))[Int.toNat (↑k : Int)]? = some (syntaxF (List.getD (Syntax.items x) k
 default)))
abbrev a3__heldSyntaxS_sLa (x : Syntax) (k : Nat) := (↑(List.length (Syntax.scopes (List.getD (Syntax.items x) k default))) : Int)
abbrev a4__heldSyntaxS_sLa (x : Syntax) (n : Int) (k : Nat) := (li (n + (a1__heldSyntaxS_sLa x k) + 1 + 1 + 1 + (a3__heldSyntaxS_sLa x k) + (↑(sumBy cY (Syntax.items (List.getD
 (Syntax.items x) k default))) : Int)))
theorem run_c_heldSyntaxS_sLa (x : Syntax) (n : Int) (k : Nat) : aexec Try.prog (loopAt Try.f196 0) (Lc_heldSyntaxS_sLa x n k) [Orc.br [Orc.cells (syntaxF (List.getD (Syntax.items
 x) k default)), Orc.br [Orc.ghost (Ghost.sel [] [4]), Orc.out 1] [Orc.cells (syntaxF (List.getD (Syntax.items x) k default)), Orc.br [Orc.ghost (Ghost.sel [] [4]), Orc.out 1]
 [Orc.draw [], Orc.cells (syntaxF (List.getD (Syntax.items x) k default)), Orc.call [Mode.rd] [] (AV.sv (ls (mText (n + (a1__heldSyntaxS_sLa x k) + 1 + 1)))), Orc.br [Orc.ghost
 (Ghost.sel [] [4]), Orc.out 1] [Orc.cells (syntaxF (List.getD (Syntax.items x) k default)), Orc.call [Mode.rd, Mode.rd] [] (AV.sv (li (n + (a1__heldSyntaxS_sLa x k) + 1 + 1 + 1 +
 (a3__heldSyntaxS_sLa x k)))), Orc.br [Orc.ghost (Ghost.sel [] [4]), Orc.out 1] [Orc.cells (syntaxF (List.getD (Syntax.items x) k default)), Orc.call [Mode.rd, Mode.rd] [] (AV.sv
 (a4__heldSyntaxS_sLa x n k)), Orc.br [Orc.ghost (Ghost.sel [] [4]), Orc.out 1] [Orc.ghost (Ghost.sel [] [0, 1, 5]), Orc.goto (List.length (Syntax.items x) - (k + 1))
 (Lc_heldSyntaxS_sLa x n (k + 1))]]]]]] [Orc.ghost (Ghost.sel [] [1]), Orc.out 0]] (loopK (Ic_heldSyntaxS_sLa x n) (Yc_heldSyntaxS_sLa x n) (List.length (Syntax.items x) - k)) =
 (List.length (List.map syntaxC (Syntax.items x)) ≤ 9223372036854775807 → (decide ((↑k : Int) < (↑(List.length (List.map syntaxC (Syntax.items x))) : Int)) = true →
 (a2__heldSyntaxS_sLa x k) ∧ (decide (Syntax.kind (List.getD (Syntax.items x) k default) ≠ n + (a1__heldSyntaxS_sLa x k)) = true → False ∧ W1c_heldSyntaxS_sLa x n (li (-1 : Int)) =
 W1c_heldSyntaxS_sLa x n (li (-1 : Int))) ∧ (decide (Syntax.kind (List.getD (Syntax.items x) k default) ≠ n + (a1__heldSyntaxS_sLa x k)) = false → rng IntKind.i64 (n +
 (a1__heldSyntaxS_sLa x k) + 1) ∧ (a2__heldSyntaxS_sLa x k) ∧ (decide (Syntax.number (List.getD (Syntax.items x) k default) ≠ n + (a1__heldSyntaxS_sLa x k) + 1) = true → False ∧
 W1c_heldSyntaxS_sLa x n (li (-1 : Int)) = W1c_heldSyntaxS_sLa x n (li (-1 : Int))) ∧ (decide (Syntax.number (List.getD (Syntax.items x) k default) ≠ n + (a1__heldSyntaxS_sLa x k)
 + 1) = false → rng IntKind.i64 (n + (a1__heldSyntaxS_sLa x k) + 1 + 1) ∧ (a2__heldSyntaxS_sLa x k) ∧ P_c_markText (n + (a1__heldSyntaxS_sLa x k) + 1 + 1) ∧ (decide (Array.toList
 (ByteArray.data (Syntax.text (List.getD (Syntax.items x) k default))) ≠ Array.toList (ByteArray.data (mText (n + (a1__heldSyntaxS_sLa x k) + 1 + 1)))) = true → False ∧
 W1c_heldSyntaxS_sLa x n (li (-1 : Int)) = W1c_heldSyntaxS_sLa x n (li (-1 : Int))) ∧ (decide (Array.toList (ByteArray.data (Syntax.text (List.getD (Syntax.items x) k default))) ≠
 Array.toList (ByteArray.data (mText (n + (a1__heldSyntaxS_sLa x k) + 1 + 1)))) = false → rng IntKind.i64 (n + (a1__heldSyntaxS_sLa x k) + 1 + 1 + 1) ∧ (a2__heldSyntaxS_sLa x k) ∧
 P_c_heldIntS (Syntax.scopes (List.getD (Syntax.items x) k default)) (n + (a1__heldSyntaxS_sLa x k) + 1 + 1 + 1) ∧ (decide (n + (a1__heldSyntaxS_sLa x k) + 1 + 1 + 1 +
 (a3__heldSyntaxS_sLa x k) < 0) = true → False ∧ W1c_heldSyntaxS_sLa x n (li (-1 : Int)) = W1c_heldSyntaxS_sLa x n (li (-1 : Int))) ∧ (decide (n + (a1__heldSyntaxS_sLa x k) + 1 + 1
 + 1 + (a3__heldSyntaxS_sLa x k) < 0) = false → (a2__heldSyntaxS_sLa x k) ∧ CallOK Try.prog 196 [] [ll (List.map syntaxC (Syntax.items (List.getD (Syntax.items x) k default))), li
 (n + (a1__heldSyntaxS_sLa x k) + 1 + 1 + 1 + (a3__heldSyntaxS_sLa x k))] [] (AV.sv (a4__heldSyntaxS_sLa x n k)) ∧ (decide (n + (a1__heldSyntaxS_sLa x k) + 1 + 1 + 1 +
 (a3__heldSyntaxS_sLa x k) + (↑(sumBy cY (Syntax.items (List.getD (Syntax.items x) k default))) : Int) < 0) = true → False ∧ W1c_heldSyntaxS_sLa x n (li (-1 : Int)) =
 W1c_heldSyntaxS_sLa x n (li (-1 : Int))) ∧ (decide (n + (a1__heldSyntaxS_sLa x k) + 1 + 1 + 1 + (a3__heldSyntaxS_sLa x k) + (↑(sumBy cY (Syntax.items (List.getD (Syntax.items x) k
 default))) : Int) < 0) = false → rng IntKind.i64 ((↑k : Int) + 1) ∧ List.length (Syntax.items x) - (k + 1) < List.length (Syntax.items x) - k ∧ Tc_heldSyntaxS_sLa x n (li ((↑k :
 Int) + 1)) (a4__heldSyntaxS_sLa x n k) = Lc_heldSyntaxS_sLa x n (k + 1) ∧ Ic_heldSyntaxS_sLa x n (List.length (Syntax.items x) - (k + 1)) (Lc_heldSyntaxS_sLa x n (k + 1)))))))) ∧
 (decide ((↑k : Int) < (↑(List.length (List.map syntaxC (Syntax.items x))) : Int)) = false → True ∧ W0c_heldSyntaxS_sLa x n (li (n + (a1__heldSyntaxS_sLa x k))) =
 W0c_heldSyntaxS_sLa x n (li (n + (↑(sumBy cY (Syntax.items x)) : Int))))) := by kernel_rfl
theorem Sc_heldSyntaxS_sLa (x : Syntax) (n : Int) (h0 : 0 ≤ n) (h : n + (↑(sumBy cY (Syntax.items x)) : Int) ≤ 2147483647) (hm : seqM mkY cY (Syntax.items x) n = Syntax.items x)
 (ih : ∀ (z : Syntax), z ∈ Syntax.items x → ∀ (n : Int), 0 ≤ n → n + (↑(sumBy cY (Syntax.items z)) : Int) ≤ 2147483647 → seqM mkY cY (Syntax.items z) n = Syntax.items z →
 P_c_heldSyntaxS z n)  : LoopSem Try.prog (loopAt Try.f196 0) (Ic_heldSyntaxS_sLa x n) (Yc_heldSyntaxS_sLa x n) := by
  refine LoopSem.ofHead wide fun k h => ⟨_, _, run_c_heldSyntaxS_sLa x n k, ?_⟩
  try delta a1__heldSyntaxS_sLa a2__heldSyntaxS_sLa a3__heldSyntaxS_sLa a4__heldSyntaxS_sLa
  have g0 := sumBy_takeLe cY x.items (k + 1)
  have g1 := fun hk : k < x.items.length => mkY_fix (seqM_get hm hk)
  with_reducible repeat' (first | apply And.intro | exact flatI | exact flatS | exact rowLens | exact ih | (intro; skip) | apply obsN | apply obsC | apply obA | apply obM | apply obB | apply svA | apply tupA | apply lcA | apply lcS | apply svC | apply liC | apply lbC | apply lsC | apply vIc | apply vBc | apply vSc | apply vLc | apply mapC | apply Hc_heldSyntaxS_sLa | apply Ec_heldSyntaxS_sLa | apply EW0c_heldSyntaxS_sLa | apply EW1c_heldSyntaxS_sLa | apply c_markText | apply c_heldIntS | apply ih)
  all_goals (try simp only [std, stdM] at *)
  all_goals (try (first | with_reducible rfl | omega | assumption | (refine (decide_eq_true ?_).symm; assumption) | (refine (decide_eq_false ?_).symm; assumption) | (refine rowGet ?_; (first | omega | (simp only [std, stdM]; omega) | grind)) | (refine getC ?_ rfl; (first | omega | (simp only [std, stdM]; omega) | grind)) | (refine fill_step ?_ ?_; (first | omega | (simp only [std, stdM]; omega) | grind); (first | rfl | exact (Row.eq _).trans rfl)) | (refine fill_init ?_; (first | rfl | exact (Row.eq _).trans rfl)) | (refine set_row ?_; (simp only [List.length_map, List.length_set, mkTo_len]; omega)) | (refine mkToRow ?_; (first | omega | (simp only [std, stdM]; omega) | grind)) | (refine mkTo_row ?_ rfl; (first | omega | (simp only [std, stdM]; omega) | grind)) | (refine mkTo_step ?_ ?_; (first | omega | (simp only [std, stdM]; omega) | grind); (first | grind [sumBy_step, getD_mem', cY_eq, snocI, snocS, rowSnoc])) | grind [sumBy_step, getD_mem', cY_eq, snocI, snocS, rowSnoc]))
theorem run_c_heldSyntaxS_s (x : Syntax) (n : Int) : aexec Try.prog (Option.getD (Func.body Try.f196) Code.skip) (entry [] [ll (List.map syntaxC (Syntax.items x)), li n] 59)
 [Orc.ghost (Ghost.sel [] [0, 1, 5]), Orc.loop (List.length (Syntax.items x) - 0) (Lc_heldSyntaxS_sLa x n 0) (Ic_heldSyntaxS_sLa x n) [(True, AEx.exit 0, W0c_heldSyntaxS_sLa x n
 (li (n + (↑(sumBy cY (Syntax.items x)) : Int))), [Orc.fin []]), (False, AEx.ret, W1c_heldSyntaxS_sLa x n (li (-1 : Int)), [Orc.fin []])]] (finK Try.prog [ResultVar.tmp 4] []
 (AV.sv (li (n + (↑(sumBy cY (Syntax.items x)) : Int))))) = (Tc_heldSyntaxS_sLa x n (li 0) (li n) = Lc_heldSyntaxS_sLa x n 0 ∧ Ic_heldSyntaxS_sLa x n (List.length (Syntax.items x)
 - 0) (Lc_heldSyntaxS_sLa x n 0) ∧ LoopSem Try.prog (loopAt Try.f196 0) (Ic_heldSyntaxS_sLa x n) (Yc_heldSyntaxS_sLa x n) ∧ (True → ObsEq [] [] ∧ AV.sv (li (n + (↑(sumBy cY
 (Syntax.items x)) : Int))) = AV.sv (li (n + (↑(sumBy cY (Syntax.items x)) : Int)))) ∧ (False → ObsEq [] [] ∧ AV.sv (li (-1 : Int)) = AV.sv (li (n + (↑(sumBy cY (Syntax.items x)) :
 Int)))) ∧ True) := by kernel_rfl
theorem c_heldSyntaxS_s (x : Syntax) (n : Int) (h0 : 0 ≤ n) (h : n + sumBy cY x.items ≤ 2147483647) (hm : seqM mkY cY x.items n = x.items) (ih : ∀ z ∈ x.items, ∀ (n : Int) (h0 : 0
 ≤ n) (h : n + sumBy cY z.items ≤ 2147483647) (hm : seqM mkY cY z.items n = z.items), P_c_heldSyntaxS z n)  : P_c_heldSyntaxS x n := by
  refine CallOK.ofRun wide (run_c_heldSyntaxS_s x n) Try.call196 Try.func196 rfl rfl rfl ?_
  have gl := cY_len x.items
  with_reducible repeat' (first | apply And.intro | exact flatI | exact flatS | exact rowLens | exact ih | (intro; skip) | apply obsN | apply obsC | apply obA | apply obM | apply obB | apply svA | apply tupA | apply lcA | apply lcS | apply svC | apply liC | apply lbC | apply lsC | apply vIc | apply vBc | apply vSc | apply vLc | apply mapC | apply Hc_heldSyntaxS_sLa | apply Ec_heldSyntaxS_sLa | apply Sc_heldSyntaxS_sLa | apply EW0c_heldSyntaxS_sLa | apply EW1c_heldSyntaxS_sLa | apply c_markText | apply c_heldIntS)
  all_goals (try simp only [std, stdM] at *)
  all_goals (try (first | with_reducible rfl | omega | assumption | (refine (decide_eq_true ?_).symm; assumption) | (refine (decide_eq_false ?_).symm; assumption) | (refine rowGet ?_; (first | omega | (simp only [std, stdM]; omega) | grind)) | (refine getC ?_ rfl; (first | omega | (simp only [std, stdM]; omega) | grind)) | (refine fill_step ?_ ?_; (first | omega | (simp only [std, stdM]; omega) | grind); (first | rfl | exact (Row.eq _).trans rfl)) | (refine fill_init ?_; (first | rfl | exact (Row.eq _).trans rfl)) | (refine set_row ?_; (simp only [List.length_map, List.length_set, mkTo_len]; omega)) | (refine mkToRow ?_; (first | omega | (simp only [std, stdM]; omega) | grind)) | (refine mkTo_row ?_ rfl; (first | omega | (simp only [std, stdM]; omega) | grind)) | (refine mkTo_step ?_ ?_; (first | omega | (simp only [std, stdM]; omega) | grind); (first | grind [mkTo_all, snocI, snocS, rowSnoc])) | grind [mkTo_all, snocI, snocS, rowSnoc]))
theorem c_heldSyntaxS (x : Syntax) : ∀ (n : Int) (h0 : 0 ≤ n) (h : n + sumBy cY x.items ≤ 2147483647) (hm : seqM mkY cY x.items n = x.items), P_c_heldSyntaxS x n := Syntax.ind (P := fun x => ∀ (n : Int) (h0 : 0 ≤ n) (h : n + sumBy cY x.items ≤ 2147483647) (hm : seqM mkY cY x.items n = x.items), P_c_heldSyntaxS x n) (fun x ih n h0 h hm => c_heldSyntaxS_s x n h0 h hm ih) x
theorem c_heldSyntaxSL (L : List Syntax) (n : Int) (h0 : 0 ≤ n) (h : n + sumBy cY L ≤ 2147483647) (hm : seqM mkY cY L n = L) : P_c_heldSyntaxS { (default : Syntax) with items := L } n := c_heldSyntaxS { (default : Syntax) with items := L } n h0 h hm

abbrev P_c_heldSyntax (x : Syntax) (n : Int) : Prop := CallOK Try.prog 104 [] [.agg [vI x.kind, vI x.number, vS x.text, vL (x.scopes.map intC), vL (x.items.map syntaxC)], li n] [] (.sv (li (n + x.scopes.length + sumBy cY x.items)))
theorem run_c_heldSyntax (x : Syntax) (n : Int) : aexec Try.prog (Option.getD (Func.body Try.f104) Code.skip) (entry [] [SV.agg [vI (Syntax.kind x), vI (Syntax.number x), vS
 (Syntax.text x), vL (List.map intC (Syntax.scopes x)), vL (List.map syntaxC (Syntax.items x))], li n] 18) [Orc.call [Mode.rd, Mode.rd] [] (AV.sv (li (n + (↑(List.length
 (Syntax.scopes x)) : Int)))), Orc.br [Orc.fin []] [Orc.call [Mode.rd, Mode.rd] [] (AV.sv (li (n + (↑(List.length (Syntax.scopes x)) : Int) + (↑(sumBy cY (Syntax.items x)) :
 Int)))), Orc.br [Orc.fin []] [Orc.fin []]]] (finK Try.prog [ResultVar.tmp 4] [] (AV.sv (li (n + (↑(List.length (Syntax.scopes x)) : Int) + (↑(sumBy cY (Syntax.items x)) : Int)))))
 = (P_c_heldIntS (Syntax.scopes x) n ∧ (decide (n + (↑(List.length (Syntax.scopes x)) : Int) < 0) = true → ObsEq [] [] ∧ AV.sv (li (-1 : Int)) = AV.sv (li (n + (↑(List.length
 (Syntax.scopes x)) : Int) + (↑(sumBy cY (Syntax.items x)) : Int)))) ∧ (decide (n + (↑(List.length (Syntax.scopes x)) : Int) < 0) = false → CallOK Try.prog 196 [] [ll (List.map
 syntaxC (Syntax.items x)), li (n + (↑(List.length (Syntax.scopes x)) : Int))] [] (AV.sv (li (n + (↑(List.length (Syntax.scopes x)) : Int) + (↑(sumBy cY (Syntax.items x)) : Int))))
 ∧ (decide (n + (↑(List.length (Syntax.scopes x)) : Int) + (↑(sumBy cY (Syntax.items x)) : Int) < 0) = true → ObsEq [] [] ∧ AV.sv (li (-1 : Int)) = AV.sv (li (n + (↑(List.length
 (Syntax.scopes x)) : Int) + (↑(sumBy cY (Syntax.items x)) : Int)))) ∧ (decide (n + (↑(List.length (Syntax.scopes x)) : Int) + (↑(sumBy cY (Syntax.items x)) : Int) < 0) = false →
 ObsEq [] [] ∧ AV.sv (li (n + (↑(List.length (Syntax.scopes x)) : Int) + (↑(sumBy cY (Syntax.items x)) : Int))) = AV.sv (li (n + (↑(List.length (Syntax.scopes x)) : Int) + (↑(sumBy
 cY (Syntax.items x)) : Int)))))) := by kernel_rfl
theorem c_heldSyntax (x : Syntax) (n : Int) (h0 : 0 ≤ n) (h : n + (x.scopes.length + sumBy cY x.items : Nat) ≤ 2147483647) (hm0 : seqM mkI cOne x.scopes (n) = x.scopes) (hm1 : seqM
 mkY cY x.items (n + x.scopes.length) = x.items)  : P_c_heldSyntax x n := by
  refine CallOK.ofRun wide (run_c_heldSyntax x n) Try.call104 Try.func104 rfl rfl rfl ?_
  with_reducible repeat' (first | apply And.intro | exact flatI | exact flatS | exact rowLens | (intro; skip) | apply obsN | apply obsC | apply obA | apply obM | apply obB | apply svA | apply tupA | apply lcA | apply lcS | apply svC | apply liC | apply lbC | apply lsC | apply vIc | apply vBc | apply vSc | apply vLc | apply mapC | apply c_heldIntS | apply c_heldSyntaxS | apply c_heldSyntaxSL)
  all_goals (try simp only [std, stdM] at *)
  all_goals (try (first | with_reducible rfl | omega | assumption | (refine (decide_eq_true ?_).symm; assumption) | (refine (decide_eq_false ?_).symm; assumption) | (refine rowGet ?_; (first | omega | (simp only [std, stdM]; omega) | grind)) | (refine getC ?_ rfl; (first | omega | (simp only [std, stdM]; omega) | grind)) | (refine fill_step ?_ ?_; (first | omega | (simp only [std, stdM]; omega) | grind); (first | rfl | exact (Row.eq _).trans rfl)) | (refine fill_init ?_; (first | rfl | exact (Row.eq _).trans rfl)) | (refine set_row ?_; (simp only [List.length_map, List.length_set, mkTo_len]; omega)) | (refine mkToRow ?_; (first | omega | (simp only [std, stdM]; omega) | grind)) | (refine mkTo_row ?_ rfl; (first | omega | (simp only [std, stdM]; omega) | grind)) | (refine mkTo_step ?_ ?_; (first | omega | (simp only [std, stdM]; omega) | grind); (first | grind [snocI, snocS, rowSnoc])) | grind [snocI, snocS, rowSnoc]))

abbrev P_c_heldBindingS (L : List Binding) (n : Int) : Prop := CallOK Try.prog 124 [] [ll (L.map bindingC), li n] [] (.sv (li (n + sumBy cB L)))
def Tc_heldBindingSLa (L : List Binding) (n : Int) (x0 : SV) (x1 : SV) : St := St.mk (regsOf 50 [(0, AV.sv (ll (List.map bindingC L))), (1, AV.sv x1), (5, AV.sv x0)]) [] 0 
def Lc_heldBindingSLa (L : List Binding) (n : Int) (k : Nat) : St := Tc_heldBindingSLa L n (li (↑k : Int)) (li (n + (↑(sumBy cB (List.take k L)) : Int))) 
def Ic_heldBindingSLa (L : List Binding) (n : Int) : Nat → St → Prop := Head (Lc_heldBindingSLa L n) (fun k => k ≤ List.length L ∧ List.length L ≤ 9223372036854775807) fun k =>
 List.length L - k 
def W0c_heldBindingSLa (L : List Binding) (n : Int) (x0 : SV) : St := St.mk (regsOf 50 [(1, AV.sv x0)]) [] 0 
def W1c_heldBindingSLa (L : List Binding) (n : Int) (x0 : SV) : St := St.mk (regsOf 50 [(4, AV.sv x0)]) [] 0 
def Yc_heldBindingSLa (L : List Binding) (n : Int) : List (Prop × AEx × St) := [(True, AEx.exit 0, W0c_heldBindingSLa L n (li (n + (↑(sumBy cB L) : Int)))), (False, AEx.ret,
 W1c_heldBindingSLa L n (li (-1 : Int)))]
theorem Hc_heldBindingSLa {L : List Binding} {n : Int} {k : Nat} {m : Nat} (h : (fun k => k ≤ List.length L ∧ List.length L ≤ 9223372036854775807) k) (hm : (fun k => List.length L
 - k) k = m) : Ic_heldBindingSLa L n m (Lc_heldBindingSLa L n k) := hm ▸ Head.mk h
theorem Ec_heldBindingSLa {L : List Binding} {n : Int} {k : Nat} {x0 : SV} {x1 : SV} (h0 : x0 = (li (↑k : Int))) (h1 : x1 = (li (n + (↑(sumBy cB (List.take k L)) : Int)))) :
 Tc_heldBindingSLa L n x0 x1 = Lc_heldBindingSLa L n k := by
  rw [h0, h1]
  rfl
theorem EW0c_heldBindingSLa {L : List Binding} {n : Int} {x0 y0 : SV} (h0 : x0 = y0) : W0c_heldBindingSLa L n x0 = W0c_heldBindingSLa L n y0 := by rw [h0]
theorem EW1c_heldBindingSLa {L : List Binding} {n : Int} {x0 y0 : SV} (h0 : x0 = y0) : W1c_heldBindingSLa L n x0 = W1c_heldBindingSLa L n y0 := by rw [h0]
abbrev a1__heldBindingSLa (L : List Binding) (k : Nat) := (↑(List.length (Binding.scopes (List.getD L k default))) : Int)
abbrev a2__heldBindingSLa (L : List Binding) (k : Nat) := (0 ≤ (↑k : Int) ∧ (List.map bindingC L)[Int.toNat (↑k : Int)]? = some (bindingF (List.getD L k default)))
theorem run_c_heldBindingSLa (L : List Binding) (n : Int) (k : Nat) : aexec Try.prog (loopAt Try.f124 0) (Lc_heldBindingSLa L n k) [Orc.br [Orc.draw [], Orc.cells (bindingF
 (List.getD L k default)), Orc.call [Mode.rd] [] (AV.sv (ls (mText (n + (↑(sumBy cB (List.take k L)) : Int))))), Orc.br [Orc.ghost (Ghost.sel [] [4]), Orc.out 1] [Orc.cells
 (bindingF (List.getD L k default)), Orc.call [Mode.rd, Mode.rd] [] (AV.sv (li (n + (↑(sumBy cB (List.take k L)) : Int) + 1 + (a1__heldBindingSLa L k)))), Orc.br [Orc.ghost
 (Ghost.sel [] [4]), Orc.out 1] [Orc.cells (bindingF (List.getD L k default)), Orc.br [Orc.ghost (Ghost.sel [] [4]), Orc.out 1] [Orc.cells (bindingF (List.getD L k default)),
 Orc.br [Orc.ghost (Ghost.sel [] [4]), Orc.out 1] [Orc.ghost (Ghost.sel [] [0, 1, 5]), Orc.goto (List.length L - (k + 1)) (Lc_heldBindingSLa L n (k + 1))]]]]] [Orc.ghost (Ghost.sel
 [] [1]), Orc.out 0]] (loopK (Ic_heldBindingSLa L n) (Yc_heldBindingSLa L n) (List.length L - k)) = (List.length (List.map bindingC L) ≤ 9223372036854775807 → (decide ((↑k : Int) <
 (↑(List.length (List.map bindingC L)) : Int)) = true → (a2__heldBindingSLa L k) ∧ P_c_markText (n + (↑(sumBy cB (List.take k L)) : Int)) ∧ (decide (Array.toList (ByteArray.data
 (Binding.text (List.getD L k default))) ≠ Array.toList (ByteArray.data (mText (n + (↑(sumBy cB (List.take k L)) : Int))))) = true → False ∧ W1c_heldBindingSLa L n (li (-1 : Int))
 = W1c_heldBindingSLa L n (li (-1 : Int))) ∧ (decide (Array.toList (ByteArray.data (Binding.text (List.getD L k default))) ≠ Array.toList (ByteArray.data (mText (n + (↑(sumBy cB
 (List.take k L)) : Int))))) = false → rng IntKind.i64 (n + (↑(sumBy cB (List.take k L)) : Int) + 1) ∧ (a2__heldBindingSLa L k) ∧ P_c_heldIntS (Binding.scopes (List.getD L k
 default)) (n + (↑(sumBy cB (List.take k L)) : Int) + 1) ∧ (decide (n + (↑(sumBy cB (List.take k L)) : Int) + 1 + (a1__heldBindingSLa L k) < 0) = true → False ∧ W1c_heldBindingSLa
 L n (li (-1 : Int)) = W1c_heldBindingSLa L n (li (-1 : Int))) ∧ (decide (n + (↑(sumBy cB (List.take k L)) : Int) + 1 + (a1__heldBindingSLa L k) < 0) = false → (a2__heldBindingSLa
 L k) ∧ (decide (Binding.kind (List.getD L k default) ≠ n + (↑(sumBy cB (List.take k L)) : Int) + 1 + (a1__heldBindingSLa L k)) = true → False ∧ W1c_heldBindingSLa L n (li (-1 :
 Int)) = W1c_heldBindingSLa L n (li (-1 : Int))) ∧ (decide (Binding.kind (List.getD L k default) ≠ n + (↑(sumBy cB (List.take k L)) : Int) + 1 + (a1__heldBindingSLa L k)) = false →
 rng IntKind.i64 (n + (↑(sumBy cB (List.take k L)) : Int) + 1 + (a1__heldBindingSLa L k) + 1) ∧ (a2__heldBindingSLa L k) ∧ (decide (Binding.number (List.getD L k default) ≠ n +
 (↑(sumBy cB (List.take k L)) : Int) + 1 + (a1__heldBindingSLa L k) + 1) = true → False ∧ W1c_heldBindingSLa L n (li (-1 : Int)) = W1c_heldBindingSLa L n (li (-1 : Int))) ∧ (decide
 (Binding.number (List.getD L k default) ≠ n + (↑(sumBy cB (List.take k L)) : Int) + 1 + (a1__heldBindingSLa L k) + 1) = false → rng IntKind.i64 (n + (↑(sumBy cB (List.take k L)) :
 Int) + 1 + (a1__heldBindingSLa L k) + 1 + 1) ∧ rng IntKind.i64 ((↑k : Int) + 1) ∧ List.length L - (k + 1) < List.length L - k ∧ Tc_heldBindingSLa L n (li ((↑k : Int) + 1)) (li (n
 + (↑(sumBy cB (List.take k L)) : Int) + 1 + (a1__heldBindingSLa L k) + 1 + 1)) = Lc_heldBindingSLa L n (k + 1) ∧ Ic_heldBindingSLa L n (List.length L - (k + 1)) (Lc_heldBindingSLa
 L n (k + 1))))))) ∧ (decide ((↑k : Int) < (↑(List.length (List.map bindingC L)) : Int)) = false → True ∧ W0c_heldBindingSLa L n (li (n + (↑(sumBy cB (List.take k L)) : Int))) =
 W0c_heldBindingSLa L n (li (n + (↑(sumBy cB L) : Int))))) := by kernel_rfl
theorem Sc_heldBindingSLa (L : List Binding) (n : Int) (h0 : 0 ≤ n) (h : n + (↑(sumBy cB L) : Int) ≤ 2147483647) (hm : seqM mkB cB L n = L)  : LoopSem Try.prog (loopAt Try.f124 0)
 (Ic_heldBindingSLa L n) (Yc_heldBindingSLa L n) := by
  refine LoopSem.ofHead wide fun k h => ⟨_, _, run_c_heldBindingSLa L n k, ?_⟩
  try delta a1__heldBindingSLa a2__heldBindingSLa
  have g0 := sumBy_takeLe cB L (k + 1)
  have g1 := fun hk : k < L.length => mkB_fix (seqM_get hm hk)
  with_reducible repeat' (first | apply And.intro | exact flatI | exact flatS | exact rowLens | (intro; skip) | apply obsN | apply obsC | apply obA | apply obM | apply obB | apply svA | apply tupA | apply lcA | apply lcS | apply svC | apply liC | apply lbC | apply lsC | apply vIc | apply vBc | apply vSc | apply vLc | apply mapC | apply Hc_heldBindingSLa | apply Ec_heldBindingSLa | apply EW0c_heldBindingSLa | apply EW1c_heldBindingSLa | apply c_markText | apply c_heldIntS)
  all_goals (try simp only [std, stdM] at *)
  all_goals (try (first | with_reducible rfl | omega | assumption | (refine (decide_eq_true ?_).symm; assumption) | (refine (decide_eq_false ?_).symm; assumption) | (refine rowGet ?_; (first | omega | (simp only [std, stdM]; omega) | grind)) | (refine getC ?_ rfl; (first | omega | (simp only [std, stdM]; omega) | grind)) | (refine fill_step ?_ ?_; (first | omega | (simp only [std, stdM]; omega) | grind); (first | rfl | exact (Row.eq _).trans rfl)) | (refine fill_init ?_; (first | rfl | exact (Row.eq _).trans rfl)) | (refine set_row ?_; (simp only [List.length_map, List.length_set, mkTo_len]; omega)) | (refine mkToRow ?_; (first | omega | (simp only [std, stdM]; omega) | grind)) | (refine mkTo_row ?_ rfl; (first | omega | (simp only [std, stdM]; omega) | grind)) | (refine mkTo_step ?_ ?_; (first | omega | (simp only [std, stdM]; omega) | grind); (first | grind [sumBy_step, getD_mem', cB_eq, snocI, snocS, rowSnoc])) | grind [sumBy_step, getD_mem', cB_eq, snocI, snocS, rowSnoc]))
theorem run_c_heldBindingS (L : List Binding) (n : Int) : aexec Try.prog (Option.getD (Func.body Try.f124) Code.skip) (entry [] [ll (List.map bindingC L), li n] 50) [Orc.ghost
 (Ghost.sel [] [0, 1, 5]), Orc.loop (List.length L - 0) (Lc_heldBindingSLa L n 0) (Ic_heldBindingSLa L n) [(True, AEx.exit 0, W0c_heldBindingSLa L n (li (n + (↑(sumBy cB L) :
 Int))), [Orc.fin []]), (False, AEx.ret, W1c_heldBindingSLa L n (li (-1 : Int)), [Orc.fin []])]] (finK Try.prog [ResultVar.tmp 4] [] (AV.sv (li (n + (↑(sumBy cB L) : Int))))) =
 (Tc_heldBindingSLa L n (li 0) (li n) = Lc_heldBindingSLa L n 0 ∧ Ic_heldBindingSLa L n (List.length L - 0) (Lc_heldBindingSLa L n 0) ∧ LoopSem Try.prog (loopAt Try.f124 0)
 (Ic_heldBindingSLa L n) (Yc_heldBindingSLa L n) ∧ (True → ObsEq [] [] ∧ AV.sv (li (n + (↑(sumBy cB L) : Int))) = AV.sv (li (n + (↑(sumBy cB L) : Int)))) ∧ (False → ObsEq [] [] ∧
 AV.sv (li (-1 : Int)) = AV.sv (li (n + (↑(sumBy cB L) : Int)))) ∧ True) := by kernel_rfl
theorem c_heldBindingS (L : List Binding) (n : Int) (h0 : 0 ≤ n) (h : n + sumBy cB L ≤ 2147483647) (hm : seqM mkB cB L n = L)  : P_c_heldBindingS L n := by
  refine CallOK.ofRun wide (run_c_heldBindingS L n) Try.call124 Try.func124 rfl rfl rfl ?_
  have gl := cB_len L
  with_reducible repeat' (first | apply And.intro | exact flatI | exact flatS | exact rowLens | (intro; skip) | apply obsN | apply obsC | apply obA | apply obM | apply obB | apply svA | apply tupA | apply lcA | apply lcS | apply svC | apply liC | apply lbC | apply lsC | apply vIc | apply vBc | apply vSc | apply vLc | apply mapC | apply Hc_heldBindingSLa | apply Ec_heldBindingSLa | apply Sc_heldBindingSLa | apply EW0c_heldBindingSLa | apply EW1c_heldBindingSLa | apply c_markText | apply c_heldIntS)
  all_goals (try simp only [std, stdM] at *)
  all_goals (try (first | with_reducible rfl | omega | assumption | (refine (decide_eq_true ?_).symm; assumption) | (refine (decide_eq_false ?_).symm; assumption) | (refine rowGet ?_; (first | omega | (simp only [std, stdM]; omega) | grind)) | (refine getC ?_ rfl; (first | omega | (simp only [std, stdM]; omega) | grind)) | (refine fill_step ?_ ?_; (first | omega | (simp only [std, stdM]; omega) | grind); (first | rfl | exact (Row.eq _).trans rfl)) | (refine fill_init ?_; (first | rfl | exact (Row.eq _).trans rfl)) | (refine set_row ?_; (simp only [List.length_map, List.length_set, mkTo_len]; omega)) | (refine mkToRow ?_; (first | omega | (simp only [std, stdM]; omega) | grind)) | (refine mkTo_row ?_ rfl; (first | omega | (simp only [std, stdM]; omega) | grind)) | (refine mkTo_step ?_ ?_; (first | omega | (simp only [std, stdM]; omega) | grind); (first | grind [mkTo_all, snocI, snocS, rowSnoc])) | grind [mkTo_all, snocI, snocS, rowSnoc]))

abbrev P_c_heldRulesS (L : List Rules) (n : Int) : Prop := CallOK Try.prog 125 [] [ll (L.map rulesC), li n] [] (.sv (li (n + sumBy cR L)))
def Tc_heldRulesSLa (L : List Rules) (n : Int) (x0 : SV) (x1 : SV) : St := St.mk (regsOf 40 [(0, AV.sv (ll (List.map rulesC L))), (1, AV.sv x1), (5, AV.sv x0)]) [] 0 
def Lc_heldRulesSLa (L : List Rules) (n : Int) (k : Nat) : St := Tc_heldRulesSLa L n (li (↑k : Int)) (li (n + (↑(sumBy cR (List.take k L)) : Int))) 
def Ic_heldRulesSLa (L : List Rules) (n : Int) : Nat → St → Prop := Head (Lc_heldRulesSLa L n) (fun k => k ≤ List.length L ∧ List.length L ≤ 9223372036854775807) fun k =>
 List.length L - k 
def W0c_heldRulesSLa (L : List Rules) (n : Int) (x0 : SV) : St := St.mk (regsOf 40 [(1, AV.sv x0)]) [] 0 
def W1c_heldRulesSLa (L : List Rules) (n : Int) (x0 : SV) : St := St.mk (regsOf 40 [(4, AV.sv x0)]) [] 0 
def Yc_heldRulesSLa (L : List Rules) (n : Int) : List (Prop × AEx × St) := [(True, AEx.exit 0, W0c_heldRulesSLa L n (li (n + (↑(sumBy cR L) : Int)))), (False, AEx.ret,
 W1c_heldRulesSLa L n (li (-1 : Int)))]
theorem Hc_heldRulesSLa {L : List Rules} {n : Int} {k : Nat} {m : Nat} (h : (fun k => k ≤ List.length L ∧ List.length L ≤ 9223372036854775807) k) (hm : (fun k => List.length L - k)
 k = m) : Ic_heldRulesSLa L n m (Lc_heldRulesSLa L n k) := hm ▸ Head.mk h
theorem Ec_heldRulesSLa {L : List Rules} {n : Int} {k : Nat} {x0 : SV} {x1 : SV} (h0 : x0 = (li (↑k : Int))) (h1 : x1 = (li (n + (↑(sumBy cR (List.take k L)) : Int)))) :
 Tc_heldRulesSLa L n x0 x1 = Lc_heldRulesSLa L n k := by
  rw [h0, h1]
  rfl
theorem EW0c_heldRulesSLa {L : List Rules} {n : Int} {x0 y0 : SV} (h0 : x0 = y0) : W0c_heldRulesSLa L n x0 = W0c_heldRulesSLa L n y0 := by rw [h0]
theorem EW1c_heldRulesSLa {L : List Rules} {n : Int} {x0 y0 : SV} (h0 : x0 = y0) : W1c_heldRulesSLa L n x0 = W1c_heldRulesSLa L n y0 := by rw [h0]
abbrev a1__heldRulesSLa (L : List Rules) (k : Nat) := (↑(sumBy cY (Rules.literals (List.getD L k default))) : Int)
abbrev a2__heldRulesSLa (L : List Rules) (k : Nat) := (↑(sumBy cY (Rules.patterns (List.getD L k default))) : Int)
abbrev a3__heldRulesSLa (L : List Rules) (n : Int) (k : Nat) := (li (n + (↑(sumBy cR (List.take k L)) : Int) + (a1__heldRulesSLa L k) + (a2__heldRulesSLa L k) + (↑(sumBy cY
 (Rules.templates (List.getD L k default))) : Int)))
theorem run_c_heldRulesSLa (L : List Rules) (n : Int) (k : Nat) : aexec Try.prog (loopAt Try.f125 0) (Lc_heldRulesSLa L n k) [Orc.br [Orc.cells (rulesF (List.getD L k default)),
 Orc.call [Mode.rd, Mode.rd] [] (AV.sv (li (n + (↑(sumBy cR (List.take k L)) : Int) + (a1__heldRulesSLa L k)))), Orc.br [Orc.ghost (Ghost.sel [] [4]), Orc.out 1] [Orc.cells (rulesF
 (List.getD L k default)), Orc.call [Mode.rd, Mode.rd] [] (AV.sv (li (n + (↑(sumBy cR (List.take k L)) : Int) + (a1__heldRulesSLa L k) + (a2__heldRulesSLa L k)))), Orc.br
 [Orc.ghost (Ghost.sel [] [4]), Orc.out 1] [Orc.cells (rulesF (List.getD L k default)), Orc.call [Mode.rd, Mode.rd] [] (AV.sv (a3__heldRulesSLa L n k)), Orc.br [Orc.ghost
 (Ghost.sel [] [4]), Orc.out 1] [Orc.ghost (Ghost.sel [] [0, 1, 5]), Orc.goto (List.length L - (k + 1)) (Lc_heldRulesSLa L n (k + 1))]]]] [Orc.ghost (Ghost.sel [] [1]), Orc.out 0]]
 (loopK (Ic_heldRulesSLa L n) (Yc_heldRulesSLa L n) (List.length L - k)) = (List.length (List.map rulesC L) ≤ 9223372036854775807 → (decide ((↑k : Int) < (↑(List.length (List.map
 rulesC L)) : Int)) = true → (0 ≤ (↑k : Int) ∧ (List.map rulesC L)[Int.toNat (↑k : Int)]? = some (rulesF (List.getD L k default))) ∧ CallOK Try.prog 196 [] [ll (List.map syntaxC
 (Rules.literals (List.getD L k default))), li (n + (↑(sumBy cR (List.take k L)) : Int))] [] (AV.sv (li (n + (↑(sumBy cR (List.take k L)) : Int) + (a1__heldRulesSLa L k)))) ∧
 (decide (n + (↑(sumBy cR (List.take k L)) : Int) + (a1__heldRulesSLa L k) < 0) = true → False ∧ W1c_heldRulesSLa L n (li (-1 : Int)) = W1c_heldRulesSLa L n (li (-1 : Int))) ∧
 (decide (n + (↑(sumBy cR (List.take k L)) : Int) + (a1__heldRulesSLa L k) < 0) = false → (0 ≤ (↑k : Int) ∧ (List.map rulesC L)[Int.toNat (↑k : Int)]? = some (rulesF (List.getD L k
 default))) ∧ CallOK Try.prog 196 [] [ll (List.map syntaxC (Rules.patterns (List.getD L k default))), li (n + (↑(sumBy cR (List.take k L)) : Int) + (a1__heldRulesSLa L k))] []
 (AV.sv (li (n + (↑(sumBy cR (List.take k L)) : Int) + (a1__heldRulesSLa L k) + (a2__heldRulesSLa L k)))) ∧ (decide (n + (↑(sumBy cR (List.take k L)) : Int) + (a1__heldRulesSLa L
 k) + (a2__heldRulesSLa L k) < 0) = true → False ∧ W1c_heldRulesSLa L n (li (-1 : Int)) = W1c_heldRulesSLa L n (li (-1 : Int))) ∧ (decide (n + (↑(sumBy cR (List.take k L)) : Int) +
 (a1__heldRulesSLa L k) + (a2__heldRulesSLa L k) < 0) = false → (0 ≤ (↑k : Int) ∧ (List.map rulesC L)[Int.toNat (↑k : Int)]? = some (rulesF (List.getD L k default))) ∧ CallOK
 Try.prog 196 [] [ll (List.map syntaxC (Rules.templates (List.getD L k default))), li (n + (↑(sumBy cR (List.take k L)) : Int) + (a1__heldRulesSLa L k) + (a2__heldRulesSLa L k))]
 [] (AV.sv (a3__heldRulesSLa L n k)) ∧ (decide (n + (↑(sumBy cR (List.take k L)) : Int) + (a1__heldRulesSLa L k) + (a2__heldRulesSLa L k) + (↑(sumBy cY (Rules.templates (List.getD
 L k default))) : Int) < 0) = true → False ∧ W1c_heldRulesSLa L n (li (-1 : Int)) = W1c_heldRulesSLa L n (li (-1 : Int))) ∧ (decide (n + (↑(sumBy cR (List.take k L)) : Int) +
 (a1__heldRulesSLa L k) + (a2__heldRulesSLa L k) + (↑(sumBy cY (Rules.templates (List.getD L k default))) : Int) < 0) = false → rng IntKind.i64 ((↑k : Int) + 1) ∧ List.length L -
 (k + 1) < List.length L - k ∧ Tc_heldRulesSLa L n (li ((↑k : Int) + 1)) (a3__heldRulesSLa L n k) = Lc_heldRulesSLa L n (k + 1) ∧ Ic_heldRulesSLa L n (List.length L - (k + 1))
 (Lc_heldRulesSLa L n (k + 1)))))) ∧ (decide ((↑k : Int) < (↑(List.length (List.map rulesC L)) : Int)) = false → True ∧ W0c_heldRulesSLa L n (li (n + (↑(sumBy cR (List.take k L)) :
 Int))) = W0c_heldRulesSLa L n (li (n + (↑(sumBy cR L) : Int))))) := by kernel_rfl
theorem Sc_heldRulesSLa (L : List Rules) (n : Int) (h0 : 0 ≤ n) (h : n + (↑(sumBy cR L) : Int) ≤ 2147483647) (h2 : List.length L ≤ 2147483647) (hm : seqM mkR cR L n = L)  : LoopSem
 Try.prog (loopAt Try.f125 0) (Ic_heldRulesSLa L n) (Yc_heldRulesSLa L n) := by
  refine LoopSem.ofHead wide fun k h => ⟨_, _, run_c_heldRulesSLa L n k, ?_⟩
  try delta a1__heldRulesSLa a2__heldRulesSLa a3__heldRulesSLa
  have g0 := sumBy_takeLe cR L (k + 1)
  have g1 := fun hk : k < L.length => mkR_fix (seqM_get hm hk)
  with_reducible repeat' (first | apply And.intro | exact flatI | exact flatS | exact rowLens | (intro; skip) | apply obsN | apply obsC | apply obA | apply obM | apply obB | apply svA | apply tupA | apply lcA | apply lcS | apply svC | apply liC | apply lbC | apply lsC | apply vIc | apply vBc | apply vSc | apply vLc | apply mapC | apply Hc_heldRulesSLa | apply Ec_heldRulesSLa | apply EW0c_heldRulesSLa | apply EW1c_heldRulesSLa | apply c_heldSyntaxS | apply c_heldSyntaxSL)
  all_goals (try simp only [std, stdM] at *)
  all_goals (try (first | with_reducible rfl | omega | assumption | (refine (decide_eq_true ?_).symm; assumption) | (refine (decide_eq_false ?_).symm; assumption) | (refine rowGet ?_; (first | omega | (simp only [std, stdM]; omega) | grind)) | (refine getC ?_ rfl; (first | omega | (simp only [std, stdM]; omega) | grind)) | (refine fill_step ?_ ?_; (first | omega | (simp only [std, stdM]; omega) | grind); (first | rfl | exact (Row.eq _).trans rfl)) | (refine fill_init ?_; (first | rfl | exact (Row.eq _).trans rfl)) | (refine set_row ?_; (simp only [List.length_map, List.length_set, mkTo_len]; omega)) | (refine mkToRow ?_; (first | omega | (simp only [std, stdM]; omega) | grind)) | (refine mkTo_row ?_ rfl; (first | omega | (simp only [std, stdM]; omega) | grind)) | (refine mkTo_step ?_ ?_; (first | omega | (simp only [std, stdM]; omega) | grind); (first | grind [sumBy_step, getD_mem', cR_eq, snocI, snocS, rowSnoc])) | grind [sumBy_step, getD_mem', cR_eq, snocI, snocS, rowSnoc]))
theorem run_c_heldRulesS (L : List Rules) (n : Int) : aexec Try.prog (Option.getD (Func.body Try.f125) Code.skip) (entry [] [ll (List.map rulesC L), li n] 40) [Orc.ghost (Ghost.sel
 [] [0, 1, 5]), Orc.loop (List.length L - 0) (Lc_heldRulesSLa L n 0) (Ic_heldRulesSLa L n) [(True, AEx.exit 0, W0c_heldRulesSLa L n (li (n + (↑(sumBy cR L) : Int))), [Orc.fin []]),
 (False, AEx.ret, W1c_heldRulesSLa L n (li (-1 : Int)), [Orc.fin []])]] (finK Try.prog [ResultVar.tmp 4] [] (AV.sv (li (n + (↑(sumBy cR L) : Int))))) = (Tc_heldRulesSLa L n (li 0)
 (li n) = Lc_heldRulesSLa L n 0 ∧ Ic_heldRulesSLa L n (List.length L - 0) (Lc_heldRulesSLa L n 0) ∧ LoopSem Try.prog (loopAt Try.f125 0) (Ic_heldRulesSLa L n) (Yc_heldRulesSLa L n)
 ∧ (True → ObsEq [] [] ∧ AV.sv (li (n + (↑(sumBy cR L) : Int))) = AV.sv (li (n + (↑(sumBy cR L) : Int)))) ∧ (False → ObsEq [] [] ∧ AV.sv (li (-1 : Int)) = AV.sv (li (n + (↑(sumBy
 cR L) : Int)))) ∧ True) := by kernel_rfl
theorem c_heldRulesS (L : List Rules) (n : Int) (h0 : 0 ≤ n) (h : n + sumBy cR L ≤ 2147483647) (h2 : L.length ≤ 2147483647) (hm : seqM mkR cR L n = L)  : P_c_heldRulesS L n := by
  refine CallOK.ofRun wide (run_c_heldRulesS L n) Try.call125 Try.func125 rfl rfl rfl ?_
  with_reducible repeat' (first | apply And.intro | exact flatI | exact flatS | exact rowLens | (intro; skip) | apply obsN | apply obsC | apply obA | apply obM | apply obB | apply svA | apply tupA | apply lcA | apply lcS | apply svC | apply liC | apply lbC | apply lsC | apply vIc | apply vBc | apply vSc | apply vLc | apply mapC | apply Hc_heldRulesSLa | apply Ec_heldRulesSLa | apply Sc_heldRulesSLa | apply EW0c_heldRulesSLa | apply EW1c_heldRulesSLa | apply c_heldSyntaxS | apply c_heldSyntaxSL)
  all_goals (try simp only [std, stdM] at *)
  all_goals (try (first | with_reducible rfl | omega | assumption | (refine (decide_eq_true ?_).symm; assumption) | (refine (decide_eq_false ?_).symm; assumption) | (refine rowGet ?_; (first | omega | (simp only [std, stdM]; omega) | grind)) | (refine getC ?_ rfl; (first | omega | (simp only [std, stdM]; omega) | grind)) | (refine fill_step ?_ ?_; (first | omega | (simp only [std, stdM]; omega) | grind); (first | rfl | exact (Row.eq _).trans rfl)) | (refine fill_init ?_; (first | rfl | exact (Row.eq _).trans rfl)) | (refine set_row ?_; (simp only [List.length_map, List.length_set, mkTo_len]; omega)) | (refine mkToRow ?_; (first | omega | (simp only [std, stdM]; omega) | grind)) | (refine mkTo_row ?_ rfl; (first | omega | (simp only [std, stdM]; omega) | grind)) | (refine mkTo_step ?_ ?_; (first | omega | (simp only [std, stdM]; omega) | grind); (first | grind [mkTo_all, snocI, snocS, rowSnoc])) | grind [mkTo_all, snocI, snocS, rowSnoc]))

abbrev P_c_heldCaptureS (x : Capture) (n : Int) : Prop := CallOK Try.prog 96 [] [ll (x.each.map captureC), li n] [] (.sv (li (n + sumBy cP x.each)))
def Tc_heldCaptureS_sLa (x : Capture) (n : Int) (x0 : SV) (x1 : SV) : St := St.mk (regsOf 133 [(0, AV.sv (ll (List.map captureC (Capture.each x)))), (1, AV.sv x1), (5, AV.sv x0)])
 [] 0 
def Lc_heldCaptureS_sLa (x : Capture) (n : Int) (k : Nat) : St := Tc_heldCaptureS_sLa x n (li (↑k : Int)) (li (n + (↑(sumBy cP (List.take k (Capture.each x))) : Int))) 
def Ic_heldCaptureS_sLa (x : Capture) (n : Int) : Nat → St → Prop := Head (Lc_heldCaptureS_sLa x n) (fun k => k ≤ List.length (Capture.each x) ∧ List.length (Capture.each x) ≤
 9223372036854775807) fun k => List.length (Capture.each x) - k 
def W0c_heldCaptureS_sLa (x : Capture) (n : Int) (x0 : SV) : St := St.mk (regsOf 133 [(1, AV.sv x0)]) [] 0 
def W1c_heldCaptureS_sLa (x : Capture) (n : Int) (x0 : SV) : St := St.mk (regsOf 133 [(4, AV.sv x0)]) [] 0 
def Yc_heldCaptureS_sLa (x : Capture) (n : Int) : List (Prop × AEx × St) := [(True, AEx.exit 0, W0c_heldCaptureS_sLa x n (li (n + (↑(sumBy cP (Capture.each x)) : Int)))), (False,
 AEx.ret, W1c_heldCaptureS_sLa x n (li (-1 : Int)))]
theorem Hc_heldCaptureS_sLa {x : Capture} {n : Int} {k : Nat} {m : Nat} (h : (fun k => k ≤ List.length (Capture.each x) ∧ List.length (Capture.each x) ≤ 9223372036854775807) k) (hm
 : (fun k => List.length (Capture.each x) - k) k = m) : Ic_heldCaptureS_sLa x n m (Lc_heldCaptureS_sLa x n k) := hm ▸ Head.mk h
theorem Ec_heldCaptureS_sLa {x : Capture} {n : Int} {k : Nat} {x0 : SV} {x1 : SV} (h0 : x0 = (li (↑k : Int))) (h1 : x1 = (li (n + (↑(sumBy cP (List.take k (Capture.each x))) :
 Int)))) : Tc_heldCaptureS_sLa x n x0 x1 = Lc_heldCaptureS_sLa x n k := by
  rw [h0, h1]
  rfl
theorem EW0c_heldCaptureS_sLa {x : Capture} {n : Int} {x0 y0 : SV} (h0 : x0 = y0) : W0c_heldCaptureS_sLa x n x0 = W0c_heldCaptureS_sLa x n y0 := by rw [h0]
theorem EW1c_heldCaptureS_sLa {x : Capture} {n : Int} {x0 y0 : SV} (h0 : x0 = y0) : W1c_heldCaptureS_sLa x n x0 = W1c_heldCaptureS_sLa x n y0 := by rw [h0]
abbrev a1__heldCaptureS_sLa (x : Capture) (k : Nat) := (Capture.name (List.getD (Capture.each x) k default))
abbrev a2__heldCaptureS_sLa (x : Capture) (k : Nat) := (↑(List.length (Syntax.scopes (a1__heldCaptureS_sLa x k))) : Int)
abbrev a3__heldCaptureS_sLa (x : Capture) (k : Nat) := (↑(sumBy cP (List.take k (Capture.each x))) : Int)
abbrev a4__heldCaptureS_sLa (x : Capture) (k : Nat) := (↑(sumBy cY (Syntax.items (a1__heldCaptureS_sLa x k))) : Int)
abbrev a12__heldCaptureS_sLa (x : Capture) (k : Nat) := (captureF (List.getD (Capture.each x) k default))
abbrev a5__heldCaptureS_sLa (x : Capture) (k : Nat) := (0 ≤ (↑k : Int) ∧ (List.map captureC (Capture.each x))[Int.toNat (↑k : Int)]? = some (a12__heldCaptureS_sLa x k))
abbrev a6__heldCaptureS_sLa (x : Capture) (k : Nat) := (Capture.form (List.getD (Capture.each x) k default))
abbrev a11__heldCaptureS_sLa (x : Capture) (k : Nat) := (↑(List.length (Syntax.scopes (a6__heldCaptureS_sLa x k))) : Int)
abbrev a7__heldCaptureS_sLa (x : Capture) (n : Int) (k : Nat) := (li (n + (a3__heldCaptureS_sLa x k) + 1 + 1 + 1 + (a2__heldCaptureS_sLa x k) + (a4__heldCaptureS_sLa x k) + 1 + 1 +
 1 + 1 + (a11__heldCaptureS_sLa x k) + (↑(sumBy cY (Syntax.items (a6__heldCaptureS_sLa x k))) : Int) + (↑(sumBy cP (Capture.each (List.getD (Capture.each x) k default))) : Int)))
abbrev a8__heldCaptureS_sLa (x : Capture) (n : Int) (k : Nat) := (n + (a3__heldCaptureS_sLa x k) + 1 + 1 + 1 + (a2__heldCaptureS_sLa x k) + (a4__heldCaptureS_sLa x k) + 1 + 1 + 1)
abbrev a9__heldCaptureS_sLa (x : Capture) (n : Int) (k : Nat) := (n + (a3__heldCaptureS_sLa x k) + 1 + 1 + 1 + (a2__heldCaptureS_sLa x k) + (a4__heldCaptureS_sLa x k) + 1 + 1 + 1 +
 1 + (a11__heldCaptureS_sLa x k) + (↑(sumBy cY (Syntax.items (a6__heldCaptureS_sLa x k))) : Int))
abbrev a10__heldCaptureS_sLa  := [Orc.ghost (Ghost.sel [] [4]), Orc.out 1]
abbrev a13__heldCaptureS_sLa (x : Capture) (n : Int) (k : Nat) := (n + (a3__heldCaptureS_sLa x k) + 1 + 1 + 1 + (a2__heldCaptureS_sLa x k) + (a4__heldCaptureS_sLa x k) + 1 + 1 + 1
 + 1 + (a11__heldCaptureS_sLa x k) + (↑(sumBy cY (Syntax.items (a6__heldCaptureS_sLa x k))) : Int) + (↑(sumBy cP (Capture.each (List.getD (Capture.each x) k default))) : Int) < 0)
abbrev a14__heldCaptureS_sLa (x : Capture) (n : Int) (k : Nat) := (n + (a3__heldCaptureS_sLa x k) + 1 + 1 + 1 + (a2__heldCaptureS_sLa x k) + (a4__heldCaptureS_sLa x k) + 1 + 1 + 1
 + 1 + (a11__heldCaptureS_sLa x k) + (↑(sumBy cY (Syntax.items (a6__heldCaptureS_sLa x k))) : Int) < 0)
theorem run_c_heldCaptureS_sLa (x : Capture) (n : Int) (k : Nat) : aexec Try.prog (loopAt Try.f96 0) (Lc_heldCaptureS_sLa x n k) [Orc.br [Orc.cells (a12__heldCaptureS_sLa x k),
 Orc.br a10__heldCaptureS_sLa [Orc.cells (a12__heldCaptureS_sLa x k), Orc.br a10__heldCaptureS_sLa [Orc.draw [], Orc.cells (a12__heldCaptureS_sLa x k), Orc.call [Mode.rd] [] (AV.sv
 (ls (mText (n + (a3__heldCaptureS_sLa x k) + 1 + 1)))), Orc.br a10__heldCaptureS_sLa [Orc.cells (a12__heldCaptureS_sLa x k), Orc.call [Mode.rd, Mode.rd] [] (AV.sv (li (n +
 (a3__heldCaptureS_sLa x k) + 1 + 1 + 1 + (a2__heldCaptureS_sLa x k)))), Orc.br a10__heldCaptureS_sLa [Orc.cells (a12__heldCaptureS_sLa x k), Orc.call [Mode.rd, Mode.rd] [] (AV.sv
 (li (n + (a3__heldCaptureS_sLa x k) + 1 + 1 + 1 + (a2__heldCaptureS_sLa x k) + (a4__heldCaptureS_sLa x k)))), Orc.br a10__heldCaptureS_sLa [Orc.cells (a12__heldCaptureS_sLa x k),
 Orc.br a10__heldCaptureS_sLa [Orc.cells (a12__heldCaptureS_sLa x k), Orc.br a10__heldCaptureS_sLa [Orc.cells (a12__heldCaptureS_sLa x k), Orc.br a10__heldCaptureS_sLa [Orc.draw
 [], Orc.cells (a12__heldCaptureS_sLa x k), Orc.call [Mode.rd] [] (AV.sv (ls (mText (a8__heldCaptureS_sLa x n k)))), Orc.br a10__heldCaptureS_sLa [Orc.cells (a12__heldCaptureS_sLa
 x k), Orc.call [Mode.rd, Mode.rd] [] (AV.sv (li (n + (a3__heldCaptureS_sLa x k) + 1 + 1 + 1 + (a2__heldCaptureS_sLa x k) + (a4__heldCaptureS_sLa x k) + 1 + 1 + 1 + 1 +
 (a11__heldCaptureS_sLa x k)))), Orc.br a10__heldCaptureS_sLa [Orc.cells (a12__heldCaptureS_sLa x k), Orc.call [Mode.rd, Mode.rd] [] (AV.sv (li (a9__heldCaptureS_sLa x n k))),
 Orc.br a10__heldCaptureS_sLa [Orc.cells (a12__heldCaptureS_sLa x k), Orc.call [Mode.rd, Mode.rd] [] (AV.sv (a7__heldCaptureS_sLa x n k)), Orc.br a10__heldCaptureS_sLa [Orc.ghost
 (Ghost.sel [] [0, 1, 5]), Orc.goto (List.length (Capture.each x) - (k + 1)) (Lc_heldCaptureS_sLa x n (k + 1))]]]]]]]]]]]]] [Orc.ghost (Ghost.sel [] [1]), Orc.out 0]] (loopK
 (Ic_heldCaptureS_sLa x n) (Yc_heldCaptureS_sLa x n) (List.length (Capture.each x) - k)) = (List.length (List.map captureC (Capture.each x)) ≤ 9223372036854775807 → (decide ((↑k :
 Int) < (↑(List.length (List.map captureC (Capture.each x))) : Int)) = true → (a5__heldCaptureS_sLa x k) ∧ (decide (Syntax.kind (a1__heldCaptureS_sLa x k) ≠ n +
 (a3__heldCaptureS_sLa x k)) = true → False ∧ W1c_heldCaptureS_sLa x n (li (-1 : Int)) = W1c_heldCaptureS_sLa x n (li (-1 : Int))) ∧ (decide (Syntax.kind (a1__heldCaptureS_sLa x k)
 ≠ n + (a3__heldCaptureS_sLa x k)) = false → rng IntKind.i64 (n + (a3__heldCaptureS_sLa x k) + 1) ∧ (a5__heldCaptureS_sLa x k) ∧ (decide (Syntax.number (a1__heldCaptureS_sLa x k) ≠
 n + (a3__heldCaptureS_sLa x k) + 1) = true → False ∧ W1c_heldCaptureS_sLa x n (li (-1 : Int)) = W1c_heldCaptureS_sLa x n (li (-1 : Int))) ∧ (decide (Syntax.number
 (a1__heldCaptureS_sLa x k) ≠ n + (a3__heldCaptureS_sLa x k) + 1) = false → rng IntKind.i64 (n + (a3__heldCaptureS_sLa x k) + 1 + 1) ∧ (a5__heldCaptureS_sLa x k) ∧ P_c_markText (n
 + (a3__heldCaptureS_sLa x k) + 1 + 1) ∧ (decide (Array.toList (ByteArray.data (Syntax.text (a1__heldCaptureS_sLa x k))) ≠ Array.toList (ByteArray.data (mText (n +
 (a3__heldCaptureS_sLa x k) + 1 + 1)))) = true → False ∧ W1c_heldCaptureS_sLa x n (li (-1 : Int)) = W1c_heldCaptureS_sLa x n (li (-1 : Int))) ∧ (decide (Array.toList
 (ByteArray.data (Syntax.text (a1__heldCaptureS_sLa x k))) ≠ Array.toList (ByteArray.data (mText (n + (a3__heldCaptureS_sLa x k) + 1 + 1)))) = false → rng IntKind.i64 (n +
 (a3__heldCaptureS_sLa x k) + 1 + 1 + 1) ∧ (a5__heldCaptureS_sLa x k) ∧ P_c_heldIntS (Syntax.scopes (a1__heldCaptureS_sLa x k)) (n + (a3__heldCaptureS_sLa x k) + 1 + 1 + 1) ∧
 (decide (n + (a3__heldCaptureS_sLa x k) + 1 + 1 + 1 + (a2__heldCaptureS_sLa x k) < 0) = true → False ∧ W1c_heldCaptureS_sLa x n (li (-1 : Int)) = W1c_heldCaptureS_sLa x n (li (-1
 : Int))) ∧ (decide (n + (a3__heldCaptureS_sLa x k) + 1 + 1 + 1 + (a2__heldCaptureS_sLa x k) < 0) = false → (a5__heldCaptureS_sLa x k) ∧ CallOK Try.prog 196 [] [ll (List.map
 syntaxC (Syntax.items (a1__heldCaptureS_sLa x k))), li (n + (a3__heldCaptureS_sLa x k) + 1 + 1 + 1 + (a2__heldCaptureS_sLa x k))] [] (AV.sv (li (n + (a3__heldCaptureS_sLa x k) + 1
 + 1 + 1 + (a2__heldCaptureS_sLa x k) + (a4__heldCaptureS_sLa x k)))) ∧ (decide (n + (a3__heldCaptureS_sLa x k) + 1 + 1 + 1 + (a2__heldCaptureS_sLa x k) + (a4__heldCaptureS_sLa x
 k) < 0) = true → False ∧ W1c_heldCaptureS_sLa x n (li (-1 : Int)) = W1c_heldCaptureS_sLa x n (li (-1 : Int))) ∧ (decide (n + (a3__heldCaptureS_sLa x k) + 1 + 1 + 1 +
 (a2__heldCaptureS_sLa x k) + (a4__heldCaptureS_sLa x k) < 0) = false → (a5__heldCaptureS_sLa x k) ∧ (decide (Capture.depth (List.getD (Capture.each x) k default) ≠ n +
 (a3__heldCaptureS_sLa x k) + 1 + 1 + 1 + (a2__heldCaptureS_sLa x k) + (a4__heldCaptureS_sLa x k)) = true → False ∧ W1c_heldCaptureS_sLa x n (li (-1 : Int)) = W1c_heldCaptureS_sLa
 x n (li (-1 : Int))) ∧ (decide (Capture.depth (List.getD (Capture.each x) k default) ≠ n + (a3__heldCaptureS_sLa x k) + 1 + 1 + 1 + (a2__heldCaptureS_sLa x k) +
 (a4__heldCaptureS_sLa x k)) = false → rng IntKind.i64 (n + (a3__heldCaptureS_sLa x k) + 1 + 1 + 1 + (a2__heldCaptureS_sLa x k) + (a4__heldCaptureS_sLa x k) + 1) ∧
 (a5__heldCaptureS_sLa x k) ∧ (decide (Syntax.kind (a6__heldCaptureS_sLa x k) ≠ n + (a3__heldCaptureS_sLa x k) + 1 + 1 + 1 + (a2__heldCaptureS_sLa x k) + (a4__heldCaptureS_sLa x k)
 + 1) = true → False ∧ W1c_heldCaptureS_sLa x n (li (-1 : Int)) = W1c_heldCaptureS_sLa x n (li (-1 : Int))) ∧ (decide (Syntax.kind (a6__heldCaptureS_sLa x k) ≠ n +
 (a3__heldCaptureS_sLa x k) + 1 + 1 + 1 + (a2__heldCaptureS_sLa x k) + (a4__heldCaptureS_sLa x k) + 1) = false → rng IntKind.i64 (n + (a3__heldCaptureS_sLa x k) + 1 + 1 + 1 +
 (a2__heldCaptureS_sLa x k) + (a4__heldCaptureS_sLa x k) + 1 + 1) ∧ (a5__heldCaptureS_sLa x k) ∧ (decide (Syntax.number (a6__heldCaptureS_sLa x k) ≠ n + (a3__heldCaptureS_sLa x k)
 + 1 + 1 + 1 + (a2__heldCaptureS_sLa x k) + (a4__heldCaptureS_sLa x k) + 1 + 1) = true → False ∧ W1c_heldCaptureS_sLa x n (li (-1 : Int)) = W1c_heldCaptureS_sLa x n (li (-1 :
 Int))) ∧ (decide (Syntax.number (a6__heldCaptureS_sLa x k) ≠ n + (a3__heldCaptureS_sLa x k) + 1 + 1 + 1 + (a2__heldCaptureS_sLa x k) + (a4__heldCaptureS_sLa x k) + 1 + 1) = false
 → rng IntKind.i64 (a8__heldCaptureS_sLa x n k) ∧ (a5__heldCaptureS_sLa x k) ∧ P_c_markText (a8__heldCaptureS_sLa x n k) ∧ (decide (Array.toList (ByteArray.data (Syntax.text
 (a6__heldCaptureS_sLa x k))) ≠ Array.toList (ByteArray.data (mText (a8__heldCaptureS_sLa x n k)))) = true → False ∧ W1c_heldCaptureS_sLa x n (li (-1 : Int)) = W1c_heldCaptureS_sLa
 x n (li (-1 : Int))) ∧ (decide (Array.toList (ByteArray.data (Syntax.text (a6__heldCaptureS_sLa x k))) ≠ Array.toList (ByteArray.data (mText (a8__heldCaptureS_sLa x n k)))) =
 false → rng IntKind.i64 (n + (a3__heldCaptureS_sLa x k) + 1 + 1 + 1 + (a2__heldCaptureS_sLa x k) + (a4__heldCaptureS_sLa x k) + 1 + 1 + 1 + 1) ∧ (a5__heldCaptureS_sLa x k) ∧
 P_c_heldIntS (Syntax.scopes (a6__heldCaptureS_sLa x k)) (n + (a3__heldCaptureS_sLa x k) + 1 + 1 + 1 + (a2__heldCaptureS_sLa x k) + (a4__heldCaptureS_sLa x k) + 1 + 1 + 1 + 1) ∧
 (decide (n + (a3__heldCaptureS_sLa x k) + 1 + 1 + 1 + (a2__heldCaptureS_sLa x k) + (a4__heldCaptureS_sLa x k) + 1 + 1 + 1 + 1 + (a11__heldCaptureS_sLa x k) < 0) = true → False ∧
 W1c_heldCaptureS_sLa x n (li (-1 : Int)) = W1c_heldCaptureS_sLa x n (li (-1 : Int))) ∧ (decide (n + (a3__heldCaptureS_sLa x k) + 1 + 1 + 1 + (a2__heldCaptureS_sLa x k) +
 (a4__heldCaptureS_sLa x k) + 1 + 1 + 1 + 1 + (a11__heldCaptureS_sLa x k) < 0) = false → (a5__heldCaptureS_sLa x k) ∧ CallOK Try.prog 196 [] [ll (List.map syntaxC (Syntax.items
 (a6__heldCaptureS_sLa x k))), li (n + (a3__heldCaptureS_sLa x k) + 1 + 1 + 1 + (a2__heldCaptureS_sLa x k) + (a4__heldCaptureS_sLa x k) + 1 + 1 + 1 + 1 + (a11__heldCaptureS_sLa x
 k))] [] (AV.sv (li (a9__heldCaptureS_sLa x n k))) ∧ (decide (a14__heldCaptureS_sLa x n k) = true → False ∧ W1c_heldCaptureS_sLa x n (li (-1 : Int)) = W1c_heldCaptureS_sLa x n (li
 (-1 : Int))) ∧ (decide (a14__heldCaptureS_sLa x n k) = false → (a5__heldCaptureS_sLa x k) ∧ CallOK Try.prog 96 [] [ll (List.map captureC (Capture.each (List.getD (Capture.each x)
 k default))), li (a9__heldCaptureS_sLa x n k)] [] (AV.sv (a7__heldCaptureS_sLa x n k)) ∧ (decide (a13__heldCaptureS_sLa x n k) = true → False ∧ W1c_heldCaptureS_sLa x n (li (-1 :
 Int)) = W1c_heldCaptureS_sLa x n (li (-1 : Int))) ∧ (decide (a13__heldCaptureS_sLa x n k) = false → rng IntKind.i64 ((↑k : Int) + 1) ∧ List.length (Capture.each x) - (k + 1) <
 List.length (Capture.each x) - k ∧ Tc_heldCaptureS_sLa x n (li ((↑k : Int) + 1)) (a7__heldCaptureS_sLa x n k) = Lc_heldCaptureS_sLa x n (k + 1) ∧ Ic_heldCaptureS_sLa x n
 (List.length (Capture.each x) - (k + 1)) (Lc_heldCaptureS_sLa x n (k + 1))))))))))))))) ∧ (decide ((↑k : Int) < (↑(List.length (List.map captureC (Capture.each x))) : Int)) =
 false → True ∧ W0c_heldCaptureS_sLa x n (li (n + (a3__heldCaptureS_sLa x k))) = W0c_heldCaptureS_sLa x n (li (n + (↑(sumBy cP (Capture.each x)) : Int))))) := by kernel_rfl
theorem Sc_heldCaptureS_sLa (x : Capture) (n : Int) (h0 : 0 ≤ n) (h : n + (↑(sumBy cP (Capture.each x)) : Int) ≤ 2147483647) (hm : seqM mkP cP (Capture.each x) n = Capture.each x)
 (ih : ∀ (z : Capture), z ∈ Capture.each x → ∀ (n : Int), 0 ≤ n → n + (↑(sumBy cP (Capture.each z)) : Int) ≤ 2147483647 → seqM mkP cP (Capture.each z) n = Capture.each z →
 P_c_heldCaptureS z n)  : LoopSem Try.prog (loopAt Try.f96 0) (Ic_heldCaptureS_sLa x n) (Yc_heldCaptureS_sLa x n) := by
  refine LoopSem.ofHead wide fun k h => ⟨_, _, run_c_heldCaptureS_sLa x n k, ?_⟩
  try delta a1__heldCaptureS_sLa a2__heldCaptureS_sLa a3__heldCaptureS_sLa a4__heldCaptureS_sLa a12__heldCaptureS_sLa a5__heldCaptureS_sLa a6__heldCaptureS_sLa a11__heldCaptureS_sLa a7__heldCaptureS_sLa a8__heldCaptureS_sLa a9__heldCaptureS_sLa a10__heldCaptureS_sLa a13__heldCaptureS_sLa a14__heldCaptureS_sLa
  have g0 := sumBy_takeLe cP x.each (k + 1)
  have g1 := fun hk : k < x.each.length => mkP_fix (seqM_get hm hk)
  with_reducible repeat' (first | apply And.intro | exact flatI | exact flatS | exact rowLens | exact ih | (intro; skip) | apply obsN | apply obsC | apply obA | apply obM | apply obB | apply svA | apply tupA | apply lcA | apply lcS | apply svC | apply liC | apply lbC | apply lsC | apply vIc | apply vBc | apply vSc | apply vLc | apply mapC | apply Hc_heldCaptureS_sLa | apply Ec_heldCaptureS_sLa | apply EW0c_heldCaptureS_sLa | apply EW1c_heldCaptureS_sLa | apply c_markText | apply c_heldIntS | apply c_heldSyntaxS | apply c_heldSyntaxSL | apply ih)
  all_goals (try simp only [std, stdM] at *)
  all_goals (try (first | with_reducible rfl | omega | assumption | (refine (decide_eq_true ?_).symm; assumption) | (refine (decide_eq_false ?_).symm; assumption) | (refine rowGet ?_; (first | omega | (simp only [std, stdM]; omega) | grind)) | (refine getC ?_ rfl; (first | omega | (simp only [std, stdM]; omega) | grind)) | (refine fill_step ?_ ?_; (first | omega | (simp only [std, stdM]; omega) | grind); (first | rfl | exact (Row.eq _).trans rfl)) | (refine fill_init ?_; (first | rfl | exact (Row.eq _).trans rfl)) | (refine set_row ?_; (simp only [List.length_map, List.length_set, mkTo_len]; omega)) | (refine mkToRow ?_; (first | omega | (simp only [std, stdM]; omega) | grind)) | (refine mkTo_row ?_ rfl; (first | omega | (simp only [std, stdM]; omega) | grind)) | (refine mkTo_step ?_ ?_; (first | omega | (simp only [std, stdM]; omega) | grind); (first | grind [sumBy_step, getD_mem', cP_eq, snocI, snocS, rowSnoc])) | grind [sumBy_step, getD_mem', cP_eq, snocI, snocS, rowSnoc]))
theorem run_c_heldCaptureS_s (x : Capture) (n : Int) : aexec Try.prog (Option.getD (Func.body Try.f96) Code.skip) (entry [] [ll (List.map captureC (Capture.each x)), li n] 133)
 [Orc.ghost (Ghost.sel [] [0, 1, 5]), Orc.loop (List.length (Capture.each x) - 0) (Lc_heldCaptureS_sLa x n 0) (Ic_heldCaptureS_sLa x n) [(True, AEx.exit 0, W0c_heldCaptureS_sLa x n
 (li (n + (↑(sumBy cP (Capture.each x)) : Int))), [Orc.fin []]), (False, AEx.ret, W1c_heldCaptureS_sLa x n (li (-1 : Int)), [Orc.fin []])]] (finK Try.prog [ResultVar.tmp 4] []
 (AV.sv (li (n + (↑(sumBy cP (Capture.each x)) : Int))))) = (Tc_heldCaptureS_sLa x n (li 0) (li n) = Lc_heldCaptureS_sLa x n 0 ∧ Ic_heldCaptureS_sLa x n (List.length (Capture.each
 x) - 0) (Lc_heldCaptureS_sLa x n 0) ∧ LoopSem Try.prog (loopAt Try.f96 0) (Ic_heldCaptureS_sLa x n) (Yc_heldCaptureS_sLa x n) ∧ (True → ObsEq [] [] ∧ AV.sv (li (n + (↑(sumBy cP
 (Capture.each x)) : Int))) = AV.sv (li (n + (↑(sumBy cP (Capture.each x)) : Int)))) ∧ (False → ObsEq [] [] ∧ AV.sv (li (-1 : Int)) = AV.sv (li (n + (↑(sumBy cP (Capture.each x)) :
 Int)))) ∧ True) := by kernel_rfl
theorem c_heldCaptureS_s (x : Capture) (n : Int) (h0 : 0 ≤ n) (h : n + sumBy cP x.each ≤ 2147483647) (hm : seqM mkP cP x.each n = x.each) (ih : ∀ z ∈ x.each, ∀ (n : Int) (h0 : 0 ≤
 n) (h : n + sumBy cP z.each ≤ 2147483647) (hm : seqM mkP cP z.each n = z.each), P_c_heldCaptureS z n)  : P_c_heldCaptureS x n := by
  refine CallOK.ofRun wide (run_c_heldCaptureS_s x n) Try.call96 Try.func96 rfl rfl rfl ?_
  have gl := cP_len x.each
  with_reducible repeat' (first | apply And.intro | exact flatI | exact flatS | exact rowLens | exact ih | (intro; skip) | apply obsN | apply obsC | apply obA | apply obM | apply obB | apply svA | apply tupA | apply lcA | apply lcS | apply svC | apply liC | apply lbC | apply lsC | apply vIc | apply vBc | apply vSc | apply vLc | apply mapC | apply Hc_heldCaptureS_sLa | apply Ec_heldCaptureS_sLa | apply Sc_heldCaptureS_sLa | apply EW0c_heldCaptureS_sLa | apply EW1c_heldCaptureS_sLa | apply c_markText | apply c_heldIntS | apply c_heldSyntaxS | apply c_heldSyntaxSL)
  all_goals (try simp only [std, stdM] at *)
  all_goals (try (first | with_reducible rfl | omega | assumption | (refine (decide_eq_true ?_).symm; assumption) | (refine (decide_eq_false ?_).symm; assumption) | (refine rowGet ?_; (first | omega | (simp only [std, stdM]; omega) | grind)) | (refine getC ?_ rfl; (first | omega | (simp only [std, stdM]; omega) | grind)) | (refine fill_step ?_ ?_; (first | omega | (simp only [std, stdM]; omega) | grind); (first | rfl | exact (Row.eq _).trans rfl)) | (refine fill_init ?_; (first | rfl | exact (Row.eq _).trans rfl)) | (refine set_row ?_; (simp only [List.length_map, List.length_set, mkTo_len]; omega)) | (refine mkToRow ?_; (first | omega | (simp only [std, stdM]; omega) | grind)) | (refine mkTo_row ?_ rfl; (first | omega | (simp only [std, stdM]; omega) | grind)) | (refine mkTo_step ?_ ?_; (first | omega | (simp only [std, stdM]; omega) | grind); (first | grind [mkTo_all, snocI, snocS, rowSnoc])) | grind [mkTo_all, snocI, snocS, rowSnoc]))
theorem c_heldCaptureS (x : Capture) : ∀ (n : Int) (h0 : 0 ≤ n) (h : n + sumBy cP x.each ≤ 2147483647) (hm : seqM mkP cP x.each n = x.each), P_c_heldCaptureS x n := Capture.ind (P := fun x => ∀ (n : Int) (h0 : 0 ≤ n) (h : n + sumBy cP x.each ≤ 2147483647) (hm : seqM mkP cP x.each n = x.each), P_c_heldCaptureS x n) (fun x ih n h0 h hm => c_heldCaptureS_s x n h0 h hm ih) x
theorem c_heldCaptureSL (L : List Capture) (n : Int) (h0 : 0 ≤ n) (h : n + sumBy cP L ≤ 2147483647) (hm : seqM mkP cP L n = L) : P_c_heldCaptureS { (default : Capture) with each := L } n := c_heldCaptureS { (default : Capture) with each := L } n h0 h hm

abbrev P_c_heldExpander (x : Expander) (n : Int) : Prop := CallOK Try.prog 38 [] [.agg [vL (x.bindings.map bindingC), vL (x.macros.map rulesC), vI x.scope, vI x.vari, vI x.steps], li n] [] (.sv (li (n + sumBy cB x.bindings + sumBy cR x.macros)))
theorem run_c_heldExpander (x : Expander) (n : Int) : aexec Try.prog (Option.getD (Func.body Try.f38) Code.skip) (entry [] [SV.agg [vL (List.map bindingC (Expander.bindings x)), vL
 (List.map rulesC (Expander.macros x)), vI (Expander.scope x), vI (Expander.vari x), vI (Expander.steps x)], li n] 18) [Orc.call [Mode.rd, Mode.rd] [] (AV.sv (li (n + (↑(sumBy cB
 (Expander.bindings x)) : Int)))), Orc.br [Orc.fin []] [Orc.call [Mode.rd, Mode.rd] [] (AV.sv (li (n + (↑(sumBy cB (Expander.bindings x)) : Int) + (↑(sumBy cR (Expander.macros x))
 : Int)))), Orc.br [Orc.fin []] [Orc.fin []]]] (finK Try.prog [ResultVar.tmp 4] [] (AV.sv (li (n + (↑(sumBy cB (Expander.bindings x)) : Int) + (↑(sumBy cR (Expander.macros x)) :
 Int))))) = (P_c_heldBindingS (Expander.bindings x) n ∧ (decide (n + (↑(sumBy cB (Expander.bindings x)) : Int) < 0) = true → ObsEq [] [] ∧ AV.sv (li (-1 : Int)) = AV.sv (li (n +
 (↑(sumBy cB (Expander.bindings x)) : Int) + (↑(sumBy cR (Expander.macros x)) : Int)))) ∧ (decide (n + (↑(sumBy cB (Expander.bindings x)) : Int) < 0) = false → P_c_heldRulesS
 (Expander.macros x) (n + (↑(sumBy cB (Expander.bindings x)) : Int)) ∧ (decide (n + (↑(sumBy cB (Expander.bindings x)) : Int) + (↑(sumBy cR (Expander.macros x)) : Int) < 0) = true
 → ObsEq [] [] ∧ AV.sv (li (-1 : Int)) = AV.sv (li (n + (↑(sumBy cB (Expander.bindings x)) : Int) + (↑(sumBy cR (Expander.macros x)) : Int)))) ∧ (decide (n + (↑(sumBy cB
 (Expander.bindings x)) : Int) + (↑(sumBy cR (Expander.macros x)) : Int) < 0) = false → ObsEq [] [] ∧ AV.sv (li (n + (↑(sumBy cB (Expander.bindings x)) : Int) + (↑(sumBy cR
 (Expander.macros x)) : Int))) = AV.sv (li (n + (↑(sumBy cB (Expander.bindings x)) : Int) + (↑(sumBy cR (Expander.macros x)) : Int)))))) := by kernel_rfl
theorem c_heldExpander (x : Expander) (n : Int) (h0 : 0 ≤ n) (h : n + (sumBy cB x.bindings + sumBy cR x.macros : Nat) ≤ 2147483647) (h21 : x.macros.length ≤ 2147483647) (hm0 : seqM
 mkB cB x.bindings (n) = x.bindings) (hm1 : seqM mkR cR x.macros (n + sumBy cB x.bindings) = x.macros)  : P_c_heldExpander x n := by
  refine CallOK.ofRun wide (run_c_heldExpander x n) Try.call38 Try.func38 rfl rfl rfl ?_
  with_reducible repeat' (first | apply And.intro | exact flatI | exact flatS | exact rowLens | (intro; skip) | apply obsN | apply obsC | apply obA | apply obM | apply obB | apply svA | apply tupA | apply lcA | apply lcS | apply svC | apply liC | apply lbC | apply lsC | apply vIc | apply vBc | apply vSc | apply vLc | apply mapC | apply c_heldBindingS | apply c_heldRulesS)
  all_goals (try simp only [std, stdM] at *)
  all_goals (try (first | with_reducible rfl | omega | assumption | (refine (decide_eq_true ?_).symm; assumption) | (refine (decide_eq_false ?_).symm; assumption) | (refine rowGet ?_; (first | omega | (simp only [std, stdM]; omega) | grind)) | (refine getC ?_ rfl; (first | omega | (simp only [std, stdM]; omega) | grind)) | (refine fill_step ?_ ?_; (first | omega | (simp only [std, stdM]; omega) | grind); (first | rfl | exact (Row.eq _).trans rfl)) | (refine fill_init ?_; (first | rfl | exact (Row.eq _).trans rfl)) | (refine set_row ?_; (simp only [List.length_map, List.length_set, mkTo_len]; omega)) | (refine mkToRow ?_; (first | omega | (simp only [std, stdM]; omega) | grind)) | (refine mkTo_row ?_ rfl; (first | omega | (simp only [std, stdM]; omega) | grind)) | (refine mkTo_step ?_ ?_; (first | omega | (simp only [std, stdM]; omega) | grind); (first | grind [snocI, snocS, rowSnoc])) | grind [snocI, snocS, rowSnoc]))

abbrev P_c_heldModule (x : Module) (n : Int) : Prop := CallOK Try.prog 61 [] [.agg [vS x.name, vL (x.imports.map strC), vL (x.exports.map strC), vL (x.body.map datumC)], li n] [] (.sv (li (n + x.imports.length + x.exports.length + sumBy cD x.body)))
theorem run_c_heldModule (x : Module) (n : Int) : aexec Try.prog (Option.getD (Func.body Try.f61) Code.skip) (entry [] [SV.agg [vS (Module.name x), vL (List.map strC
 (Module.imports x)), vL (List.map strC (Module.exports x)), vL (List.map datumC (Module.body x))], li n] 24) [Orc.call [Mode.rd, Mode.rd] [] (AV.sv (li (n + (↑(List.length
 (Module.imports x)) : Int)))), Orc.br [Orc.fin []] [Orc.call [Mode.rd, Mode.rd] [] (AV.sv (li (n + (↑(List.length (Module.imports x)) : Int) + (↑(List.length (Module.exports x)) :
 Int)))), Orc.br [Orc.fin []] [Orc.call [Mode.rd, Mode.rd] [] (AV.sv (li (n + (↑(List.length (Module.imports x)) : Int) + (↑(List.length (Module.exports x)) : Int) + (↑(sumBy cD
 (Module.body x)) : Int)))), Orc.br [Orc.fin []] [Orc.fin []]]]] (finK Try.prog [ResultVar.tmp 4] [] (AV.sv (li (n + (↑(List.length (Module.imports x)) : Int) + (↑(List.length
 (Module.exports x)) : Int) + (↑(sumBy cD (Module.body x)) : Int))))) = (P_c_heldStringS (Module.imports x) n ∧ (decide (n + (↑(List.length (Module.imports x)) : Int) < 0) = true →
 ObsEq [] [] ∧ AV.sv (li (-1 : Int)) = AV.sv (li (n + (↑(List.length (Module.imports x)) : Int) + (↑(List.length (Module.exports x)) : Int) + (↑(sumBy cD (Module.body x)) : Int))))
 ∧ (decide (n + (↑(List.length (Module.imports x)) : Int) < 0) = false → P_c_heldStringS (Module.exports x) (n + (↑(List.length (Module.imports x)) : Int)) ∧ (decide (n +
 (↑(List.length (Module.imports x)) : Int) + (↑(List.length (Module.exports x)) : Int) < 0) = true → ObsEq [] [] ∧ AV.sv (li (-1 : Int)) = AV.sv (li (n + (↑(List.length
 (Module.imports x)) : Int) + (↑(List.length (Module.exports x)) : Int) + (↑(sumBy cD (Module.body x)) : Int)))) ∧ (decide (n + (↑(List.length (Module.imports x)) : Int) +
 (↑(List.length (Module.exports x)) : Int) < 0) = false → CallOK Try.prog 159 [] [ll (List.map datumC (Module.body x)), li (n + (↑(List.length (Module.imports x)) : Int) +
 (↑(List.length (Module.exports x)) : Int))] [] (AV.sv (li (n + (↑(List.length (Module.imports x)) : Int) + (↑(List.length (Module.exports x)) : Int) + (↑(sumBy cD (Module.body x))
 : Int)))) ∧ (decide (n + (↑(List.length (Module.imports x)) : Int) + (↑(List.length (Module.exports x)) : Int) + (↑(sumBy cD (Module.body x)) : Int) < 0) = true → ObsEq [] [] ∧
 AV.sv (li (-1 : Int)) = AV.sv (li (n + (↑(List.length (Module.imports x)) : Int) + (↑(List.length (Module.exports x)) : Int) + (↑(sumBy cD (Module.body x)) : Int)))) ∧ (decide (n
 + (↑(List.length (Module.imports x)) : Int) + (↑(List.length (Module.exports x)) : Int) + (↑(sumBy cD (Module.body x)) : Int) < 0) = false → ObsEq [] [] ∧ AV.sv (li (n +
 (↑(List.length (Module.imports x)) : Int) + (↑(List.length (Module.exports x)) : Int) + (↑(sumBy cD (Module.body x)) : Int))) = AV.sv (li (n + (↑(List.length (Module.imports x)) :
 Int) + (↑(List.length (Module.exports x)) : Int) + (↑(sumBy cD (Module.body x)) : Int))))))) := by kernel_rfl
theorem c_heldModule (x : Module) (n : Int) (h0 : 0 ≤ n) (h : n + (x.imports.length + x.exports.length + sumBy cD x.body : Nat) ≤ 2147483647) (hm0 : seqM mkT cOne x.imports (n) =
 x.imports) (hm1 : seqM mkT cOne x.exports (n + x.imports.length) = x.exports) (hm2 : seqM mkD cD x.body (n + x.imports.length + x.exports.length) = x.body)  : P_c_heldModule x n
 := by
  refine CallOK.ofRun wide (run_c_heldModule x n) Try.call61 Try.func61 rfl rfl rfl ?_
  with_reducible repeat' (first | apply And.intro | exact flatI | exact flatS | exact rowLens | (intro; skip) | apply obsN | apply obsC | apply obA | apply obM | apply obB | apply svA | apply tupA | apply lcA | apply lcS | apply svC | apply liC | apply lbC | apply lsC | apply vIc | apply vBc | apply vSc | apply vLc | apply mapC | apply c_heldStringS | apply c_heldDatumS | apply c_heldDatumSL)
  all_goals (try simp only [std, stdM] at *)
  all_goals (try (first | with_reducible rfl | omega | assumption | (refine (decide_eq_true ?_).symm; assumption) | (refine (decide_eq_false ?_).symm; assumption) | (refine rowGet ?_; (first | omega | (simp only [std, stdM]; omega) | grind)) | (refine getC ?_ rfl; (first | omega | (simp only [std, stdM]; omega) | grind)) | (refine fill_step ?_ ?_; (first | omega | (simp only [std, stdM]; omega) | grind); (first | rfl | exact (Row.eq _).trans rfl)) | (refine fill_init ?_; (first | rfl | exact (Row.eq _).trans rfl)) | (refine set_row ?_; (simp only [List.length_map, List.length_set, mkTo_len]; omega)) | (refine mkToRow ?_; (first | omega | (simp only [std, stdM]; omega) | grind)) | (refine mkTo_row ?_ rfl; (first | omega | (simp only [std, stdM]; omega) | grind)) | (refine mkTo_step ?_ ?_; (first | omega | (simp only [std, stdM]; omega) | grind); (first | grind [snocI, snocS, rowSnoc])) | grind [snocI, snocS, rowSnoc]))

end Go.Proofs.Ytamcedjjlokfhaa
