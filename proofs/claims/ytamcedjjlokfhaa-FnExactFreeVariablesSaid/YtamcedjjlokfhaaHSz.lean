/- The contracts of the functions with which the laws measure what they are handed. No condition. -/
import Derived.Test.YtamcedjjlokfhaaData
import Derived.Test.YtamcedjjlokfhaaRows
namespace Go.Proofs.Ytamcedjjlokfhaa
open Go Go.Proofs.Ytamcedjjlokfhaa.Ab
set_option linter.unusedVariables false
set_option linter.unusedSimpArgs false
set_option maxHeartbeats 4000000

abbrev P_c_szIntS (L : List Int) (left : Int) : Prop := CallOK Try.prog 109 [] [ll (L.map intC), li left] [] (.sv (li (sz L.length left)))
theorem run_c_szIntS (L : List Int) (left : Int) : aexec Try.prog (Option.getD (Func.body Try.f109) Code.skip) (entry [] [ll (List.map intC L), li left] 12) [Orc.br [Orc.fin []]
 [Orc.fin []]] (finK Try.prog [ResultVar.tmp 4] [] (AV.sv (li (sz (List.length L) left)))) = (List.length (List.map intC L) ≤ 9223372036854775807 → rng IntKind.i64 (left -
 (↑(List.length (List.map intC L)) : Int)) ∧ (decide (left - (↑(List.length (List.map intC L)) : Int) < 0) = true → ObsEq [] [] ∧ AV.sv (li (-1 : Int)) = AV.sv (li (sz (List.length
 L) left))) ∧ (decide (left - (↑(List.length (List.map intC L)) : Int) < 0) = false → ObsEq [] [] ∧ AV.sv (li (left - (↑(List.length (List.map intC L)) : Int))) = AV.sv (li (sz
 (List.length L) left)))) := by kernel_rfl
theorem c_szIntS (L : List Int) (left : Int) (h0 : 0 ≤ left) (h : left ≤ 2147483647)  : P_c_szIntS L left := by
  refine CallOK.ofRun wide (run_c_szIntS L left) Try.call109 Try.func109 rfl rfl rfl ?_
  with_reducible repeat' (first | apply And.intro | exact flatI | exact flatS | exact rowLens | (intro; skip) | apply obsN | apply obsC | apply obA | apply obM | apply obB | apply svA | apply tupA | apply lcA | apply lcS | apply svC | apply liC | apply lbC | apply lsC | apply vIc | apply vBc | apply vSc | apply vLc | apply mapC)
  all_goals (try simp only [std] at *)
  all_goals (try (first | with_reducible rfl | omega | assumption | exact rowGet (by first | omega | grind) | exact getC (by first | omega | grind) rfl | exact fillStep (by first | omega | grind) | exact fillInit | grind [sz, snocI, snocS, rowSnoc]))

abbrev P_c_szStringS (L : List ByteArray) (left : Int) : Prop := CallOK Try.prog 129 [] [ll (L.map strC), li left] [] (.sv (li (sz (wS L) left)))
def Tc_szStringSLa (L : List ByteArray) (left : Int) (x0 : SV) (x1 : SV) : St := St.mk (regsOf 28 [(0, AV.sv (ll (List.map strC L))), (1, AV.sv x1), (5, AV.sv x0)]) [] 0 
def Lc_szStringSLa (L : List ByteArray) (left : Int) (k : Nat × Int) : St := Tc_szStringSLa L left (li (↑(Prod.fst k) : Int)) (li (Prod.snd k)) 
def Ic_szStringSLa (L : List ByteArray) (left : Int) : Nat → St → Prop := Head (Lc_szStringSLa L left) (fun k => Prod.fst k ≤ List.length L ∧ List.length L ≤ 9223372036854775807 ∧
 0 ≤ Prod.snd k ∧ Prod.snd k ≤ left ∧ sz (sumBy ByteArray.size (List.drop (Prod.fst k) L)) (Prod.snd k) = sz (wS L) left) fun k => List.length L - Prod.fst k 
def W0c_szStringSLa (L : List ByteArray) (left : Int) (x0 : SV) : St := St.mk (regsOf 28 [(1, AV.sv x0)]) [] 0 
def W1c_szStringSLa (L : List ByteArray) (left : Int) (x0 : SV) : St := St.mk (regsOf 28 [(4, AV.sv x0)]) [] 0 
def Yc_szStringSLa (L : List ByteArray) (left : Int) : List (Prop × AEx × St) := [(0 ≤ sz (wS L) left, AEx.exit 0, W0c_szStringSLa L left (li (sz (wS L) left))), (sz (wS L) left =
 (-1 : Int), AEx.ret, W1c_szStringSLa L left (li (-1 : Int)))]
theorem Hc_szStringSLa {L : List ByteArray} {left : Int} {k : Nat × Int} {m : Nat} (h : (fun k => Prod.fst k ≤ List.length L ∧ List.length L ≤ 9223372036854775807 ∧ 0 ≤ Prod.snd k
 ∧ Prod.snd k ≤ left ∧ sz (sumBy ByteArray.size (List.drop (Prod.fst k) L)) (Prod.snd k) = sz (wS L) left) k) (hm : (fun k => List.length L - Prod.fst k) k = m) : Ic_szStringSLa L
 left m (Lc_szStringSLa L left k) := hm ▸ Head.mk h
theorem Ec_szStringSLa {L : List ByteArray} {left : Int} {k : Nat × Int} {x0 : SV} {x1 : SV} (h0 : x0 = (li (↑(Prod.fst k) : Int))) (h1 : x1 = (li (Prod.snd k))) : Tc_szStringSLa L
 left x0 x1 = Lc_szStringSLa L left k := by (rw [h0, h1]; rfl)
theorem EW0c_szStringSLa {L : List ByteArray} {left : Int} {x0 y0 : SV} (h0 : x0 = y0) : W0c_szStringSLa L left x0 = W0c_szStringSLa L left y0 := by rw [h0]
theorem EW1c_szStringSLa {L : List ByteArray} {left : Int} {x0 y0 : SV} (h0 : x0 = y0) : W1c_szStringSLa L left x0 = W1c_szStringSLa L left y0 := by rw [h0]
theorem run_c_szStringSLa (L : List ByteArray) (left : Int) (k : Nat × Int) : aexec Try.prog (loopAt Try.f129 0) (Lc_szStringSLa L left k) [Orc.br [Orc.cells (strC (List.getD L
 (Prod.fst k) default)), Orc.br [Orc.ghost (Ghost.sel [] [4]), Orc.out 1] [Orc.ghost (Ghost.sel [] [0, 1, 5]), Orc.goto (List.length L - (Prod.fst k + 1)) (Lc_szStringSLa L left
 (Prod.fst k + 1, Prod.snd k - (↑(List.length (Array.toList (ByteArray.data (List.getD L (Prod.fst k) default)))) : Int)))]] [Orc.ghost (Ghost.sel [] [1]), Orc.out 0]] (loopK
 (Ic_szStringSLa L left) (Yc_szStringSLa L left) (List.length L - Prod.fst k)) = (List.length (List.map strC L) ≤ 9223372036854775807 → (decide ((↑(Prod.fst k) : Int) <
 (↑(List.length (List.map strC L)) : Int)) = true → (0 ≤ (↑(Prod.fst k) : Int) ∧ (List.map strC L)[Int.toNat (↑(Prod.fst k) : Int)]? = some [cS (List.getD L (Prod.fst k) default)])
 ∧ (List.length (Array.toList (ByteArray.data (List.getD L (Prod.fst k) default))) ≤ 9223372036854775807 → rng IntKind.i64 (Prod.snd k - (↑(List.length (Array.toList
 (ByteArray.data (List.getD L (Prod.fst k) default)))) : Int)) ∧ (decide (Prod.snd k - (↑(List.length (Array.toList (ByteArray.data (List.getD L (Prod.fst k) default)))) : Int) <
 0) = true → sz (wS L) left = (-1 : Int) ∧ W1c_szStringSLa L left (li (-1 : Int)) = W1c_szStringSLa L left (li (-1 : Int))) ∧ (decide (Prod.snd k - (↑(List.length (Array.toList
 (ByteArray.data (List.getD L (Prod.fst k) default)))) : Int) < 0) = false → rng IntKind.i64 ((↑(Prod.fst k) : Int) + 1) ∧ List.length L - (Prod.fst k + 1) < List.length L -
 Prod.fst k ∧ Tc_szStringSLa L left (li ((↑(Prod.fst k) : Int) + 1)) (li (Prod.snd k - (↑(List.length (Array.toList (ByteArray.data (List.getD L (Prod.fst k) default)))) : Int))) =
 Lc_szStringSLa L left (Prod.fst k + 1, Prod.snd k - (↑(List.length (Array.toList (ByteArray.data (List.getD L (Prod.fst k) default)))) : Int)) ∧ Ic_szStringSLa L left (List.length
 L - (Prod.fst k + 1)) (Lc_szStringSLa L left (Prod.fst k + 1, Prod.snd k - (↑(List.length (Array.toList (ByteArray.data (List.getD L (Prod.fst k) default)))) : Int)))))) ∧ (decide
 ((↑(Prod.fst k) : Int) < (↑(List.length (List.map strC L)) : Int)) = false → 0 ≤ sz (wS L) left ∧ W0c_szStringSLa L left (li (Prod.snd k)) = W0c_szStringSLa L left (li (sz (wS L)
 left)))) := by kernel_rfl
theorem Sc_szStringSLa (L : List ByteArray) (left : Int) (h0 : 0 ≤ left) (h : left ≤ 2147483647)  : LoopSem Try.prog (loopAt Try.f129 0) (Ic_szStringSLa L left) (Yc_szStringSLa L
 left) := by
  refine LoopSem.ofHead wide fun k h => ⟨_, _, run_c_szStringSLa L left k, ?_⟩
  obtain ⟨i, n⟩ := k
  simp only at *
  with_reducible repeat' (first | apply And.intro | exact flatI | exact flatS | exact rowLens | (intro; skip) | apply obsN | apply obsC | apply obA | apply obM | apply obB | apply svA | apply tupA | apply lcA | apply lcS | apply svC | apply liC | apply lbC | apply lsC | apply vIc | apply vBc | apply vSc | apply vLc | apply mapC | apply Hc_szStringSLa | apply Ec_szStringSLa | apply EW0c_szStringSLa | apply EW1c_szStringSLa)
  all_goals (try simp only [std] at *)
  all_goals (try (first | with_reducible rfl | omega | assumption | exact rowGet (by first | omega | grind) | exact getC (by first | omega | grind) rfl | exact fillStep (by first | omega | grind) | exact fillInit | grind [drop_get, sumBy, sz, snocI, snocS, rowSnoc]))
theorem run_c_szStringS (L : List ByteArray) (left : Int) : aexec Try.prog (Option.getD (Func.body Try.f129) Code.skip) (entry [] [ll (List.map strC L), li left] 28) [Orc.br
 [Orc.fin []] [Orc.ghost (Ghost.sel [] [0, 1, 5]), Orc.loop (List.length L - 0) (Lc_szStringSLa L left (0, left - (↑(List.length L) : Int))) (Ic_szStringSLa L left) [(0 ≤ sz (wS L)
 left, AEx.exit 0, W0c_szStringSLa L left (li (sz (wS L) left)), [Orc.fin []]), (sz (wS L) left = (-1 : Int), AEx.ret, W1c_szStringSLa L left (li (-1 : Int)), [Orc.fin []])]]]
 (finK Try.prog [ResultVar.tmp 4] [] (AV.sv (li (sz (wS L) left)))) = (List.length (List.map strC L) ≤ 9223372036854775807 → rng IntKind.i64 (left - (↑(List.length (List.map strC
 L)) : Int)) ∧ (decide (left - (↑(List.length (List.map strC L)) : Int) < 0) = true → ObsEq [] [] ∧ AV.sv (li (-1 : Int)) = AV.sv (li (sz (wS L) left))) ∧ (decide (left -
 (↑(List.length (List.map strC L)) : Int) < 0) = false → Tc_szStringSLa L left (li 0) (li (left - (↑(List.length (List.map strC L)) : Int))) = Lc_szStringSLa L left (0, left -
 (↑(List.length L) : Int)) ∧ Ic_szStringSLa L left (List.length L - 0) (Lc_szStringSLa L left (0, left - (↑(List.length L) : Int))) ∧ LoopSem Try.prog (loopAt Try.f129 0)
 (Ic_szStringSLa L left) (Yc_szStringSLa L left) ∧ (Int.NonNeg (sz (wS L) left - 0) → ObsEq [] [] ∧ AV.sv (li (sz (wS L) left)) = AV.sv (li (sz (wS L) left))) ∧ (sz (wS L) left =
 (-1 : Int) → ObsEq [] [] ∧ AV.sv (li (-1 : Int)) = AV.sv (li (sz (wS L) left))) ∧ True)) := by kernel_rfl
theorem c_szStringS (L : List ByteArray) (left : Int) (h0 : 0 ≤ left) (h : left ≤ 2147483647)  : P_c_szStringS L left := by
  refine CallOK.ofRun wide (run_c_szStringS L left) Try.call129 Try.func129 rfl rfl rfl ?_
  with_reducible repeat' (first | apply And.intro | exact flatI | exact flatS | exact rowLens | (intro; skip) | apply obsN | apply obsC | apply obA | apply obM | apply obB | apply svA | apply tupA | apply lcA | apply lcS | apply svC | apply liC | apply lbC | apply lsC | apply vIc | apply vBc | apply vSc | apply vLc | apply mapC | apply Hc_szStringSLa | apply Ec_szStringSLa | apply Sc_szStringSLa | apply EW0c_szStringSLa | apply EW1c_szStringSLa)
  all_goals (try simp only [std] at *)
  all_goals (try (first | with_reducible rfl | omega | assumption | exact rowGet (by first | omega | grind) | exact getC (by first | omega | grind) rfl | exact fillStep (by first | omega | grind) | exact fillInit | grind [wS, sz, snocI, snocS, rowSnoc]))

abbrev P_c_szDatumS (L : List Datum) (left : Int) : Prop := CallOK Try.prog 130 [] [ll (L.map datumC), li left] [] (.sv (li (sz (L.length + sumBy wD L) left)))
abbrev P_c_szDatum (x : Datum) (left : Int) : Prop := CallOK Try.prog 54 [] [datumA x, li left] [] (.sv (li (sz (wD x) left)))
def Tc_szDatumSLa (L : List Datum) (left : Int) (x0 : SV) (x1 : SV) : St := St.mk (regsOf 27 [(0, AV.sv (ll (List.map datumC L))), (1, AV.sv x1), (5, AV.sv x0)]) [] 0 
def Lc_szDatumSLa (L : List Datum) (left : Int) (k : Nat × Int) : St := Tc_szDatumSLa L left (li (↑(Prod.fst k) : Int)) (li (Prod.snd k)) 
def Ic_szDatumSLa (L : List Datum) (left : Int) : Nat → St → Prop := Head (Lc_szDatumSLa L left) (fun k => Prod.fst k ≤ List.length L ∧ List.length L ≤ 9223372036854775807 ∧ 0 ≤
 Prod.snd k ∧ Prod.snd k ≤ left ∧ sz (sumBy wD (List.drop (Prod.fst k) L)) (Prod.snd k) = sz (List.length L + sumBy wD L) left) fun k => List.length L - Prod.fst k 
def W0c_szDatumSLa (L : List Datum) (left : Int) (x0 : SV) : St := St.mk (regsOf 27 [(1, AV.sv x0)]) [] 0 
def W1c_szDatumSLa (L : List Datum) (left : Int) (x0 : SV) : St := St.mk (regsOf 27 [(4, AV.sv x0)]) [] 0 
def Yc_szDatumSLa (L : List Datum) (left : Int) : List (Prop × AEx × St) := [(0 ≤ sz (List.length L + sumBy wD L) left, AEx.exit 0, W0c_szDatumSLa L left (li (sz (List.length L +
 sumBy wD L) left))), (sz (List.length L + sumBy wD L) left = (-1 : Int), AEx.ret, W1c_szDatumSLa L left (li (-1 : Int)))]
theorem Hc_szDatumSLa {L : List Datum} {left : Int} {k : Nat × Int} {m : Nat} (h : (fun k => Prod.fst k ≤ List.length L ∧ List.length L ≤ 9223372036854775807 ∧ 0 ≤ Prod.snd k ∧
 Prod.snd k ≤ left ∧ sz (sumBy wD (List.drop (Prod.fst k) L)) (Prod.snd k) = sz (List.length L + sumBy wD L) left) k) (hm : (fun k => List.length L - Prod.fst k) k = m) :
 Ic_szDatumSLa L left m (Lc_szDatumSLa L left k) := hm ▸ Head.mk h
theorem Ec_szDatumSLa {L : List Datum} {left : Int} {k : Nat × Int} {x0 : SV} {x1 : SV} (h0 : x0 = (li (↑(Prod.fst k) : Int))) (h1 : x1 = (li (Prod.snd k))) : Tc_szDatumSLa L left
 x0 x1 = Lc_szDatumSLa L left k := by (rw [h0, h1]; rfl)
theorem EW0c_szDatumSLa {L : List Datum} {left : Int} {x0 y0 : SV} (h0 : x0 = y0) : W0c_szDatumSLa L left x0 = W0c_szDatumSLa L left y0 := by rw [h0]
theorem EW1c_szDatumSLa {L : List Datum} {left : Int} {x0 y0 : SV} (h0 : x0 = y0) : W1c_szDatumSLa L left x0 = W1c_szDatumSLa L left y0 := by rw [h0]
theorem run_c_szDatumSLa (L : List Datum) (left : Int) (k : Nat × Int) : aexec Try.prog (loopAt Try.f130 0) (Lc_szDatumSLa L left k) [Orc.br [Orc.cells (datumF (List.getD L
 (Prod.fst k) default)), Orc.call [Mode.rd, Mode.rd] [] (AV.sv (li (sz (wD (List.getD L (Prod.fst k) default)) (Prod.snd k)))), Orc.br [Orc.ghost (Ghost.sel [] [4]), Orc.out 1]
 [Orc.ghost (Ghost.sel [] [0, 1, 5]), Orc.goto (List.length L - (Prod.fst k + 1)) (Lc_szDatumSLa L left (Prod.fst k + 1, sz (wD (List.getD L (Prod.fst k) default)) (Prod.snd k)))]]
 [Orc.ghost (Ghost.sel [] [1]), Orc.out 0]] (loopK (Ic_szDatumSLa L left) (Yc_szDatumSLa L left) (List.length L - Prod.fst k)) = (List.length (List.map datumC L) ≤
 9223372036854775807 → (decide ((↑(Prod.fst k) : Int) < (↑(List.length (List.map datumC L)) : Int)) = true → (0 ≤ (↑(Prod.fst k) : Int) ∧ (List.map datumC L)[Int.toNat (↑(Prod.fst
 k) : Int)]? = some (datumF (List.getD L (Prod.fst k) default))) ∧ P_c_szDatum (List.getD L (Prod.fst k) default) (Prod.snd k) ∧ (decide (sz (wD (List.getD L (Prod.fst k) default))
 (Prod.snd k) < 0) = true → sz (List.length L + sumBy wD L) left = (-1 : Int) ∧ W1c_szDatumSLa L left (li (-1 : Int)) = W1c_szDatumSLa L left (li (-1 : Int))) ∧ (decide (sz (wD
 (List.getD L (Prod.fst k) default)) (Prod.snd k) < 0) = false → rng IntKind.i64 ((↑(Prod.fst k) : Int) + 1) ∧ List.length L - (Prod.fst k + 1) < List.length L - Prod.fst k ∧
 Tc_szDatumSLa L left (li ((↑(Prod.fst k) : Int) + 1)) (li (sz (wD (List.getD L (Prod.fst k) default)) (Prod.snd k))) = Lc_szDatumSLa L left (Prod.fst k + 1, sz (wD (List.getD L
 (Prod.fst k) default)) (Prod.snd k)) ∧ Ic_szDatumSLa L left (List.length L - (Prod.fst k + 1)) (Lc_szDatumSLa L left (Prod.fst k + 1, sz (wD (List.getD L (Prod.fst k) default))
 (Prod.snd k))))) ∧ (decide ((↑(Prod.fst k) : Int) < (↑(List.length (List.map datumC L)) : Int)) = false → 0 ≤ sz (List.length L + sumBy wD L) left ∧ W0c_szDatumSLa L left (li
 (Prod.snd k)) = W0c_szDatumSLa L left (li (sz (List.length L + sumBy wD L) left)))) := by kernel_rfl
theorem Sc_szDatumSLa (L : List Datum) (left : Int) (h0 : 0 ≤ left) (h : left ≤ 2147483647) (ih : ∀ (x : Datum), x ∈ L → ∀ (left : Int), 0 ≤ left → left ≤ 2147483647 → P_c_szDatum
 x left)  : LoopSem Try.prog (loopAt Try.f130 0) (Ic_szDatumSLa L left) (Yc_szDatumSLa L left) := by
  refine LoopSem.ofHead wide fun k h => ⟨_, _, run_c_szDatumSLa L left k, ?_⟩
  obtain ⟨i, n⟩ := k
  simp only at *
  with_reducible repeat' (first | apply And.intro | exact flatI | exact flatS | exact rowLens | (intro; skip) | apply obsN | apply obsC | apply obA | apply obM | apply obB | apply svA | apply tupA | apply lcA | apply lcS | apply svC | apply liC | apply lbC | apply lsC | apply vIc | apply vBc | apply vSc | apply vLc | apply mapC | apply Hc_szDatumSLa | apply Ec_szDatumSLa | apply EW0c_szDatumSLa | apply EW1c_szDatumSLa | apply ih)
  all_goals (try simp only [std] at *)
  all_goals (try (first | with_reducible rfl | omega | assumption | exact rowGet (by first | omega | grind) | exact getC (by first | omega | grind) rfl | exact fillStep (by first | omega | grind) | exact fillInit | grind [drop_get, sumBy, sz, getD_mem', snocI, snocS, rowSnoc]))
theorem run_c_szDatumS (L : List Datum) (left : Int) : aexec Try.prog (Option.getD (Func.body Try.f130) Code.skip) (entry [] [ll (List.map datumC L), li left] 27) [Orc.br [Orc.fin
 []] [Orc.ghost (Ghost.sel [] [0, 1, 5]), Orc.loop (List.length L - 0) (Lc_szDatumSLa L left (0, left - (↑(List.length L) : Int))) (Ic_szDatumSLa L left) [(0 ≤ sz (List.length L +
 sumBy wD L) left, AEx.exit 0, W0c_szDatumSLa L left (li (sz (List.length L + sumBy wD L) left)), [Orc.fin []]), (sz (List.length L + sumBy wD L) left = (-1 : Int), AEx.ret,
 W1c_szDatumSLa L left (li (-1 : Int)), [Orc.fin []])]]] (finK Try.prog [ResultVar.tmp 4] [] (AV.sv (li (sz (List.length L + sumBy wD L) left)))) = (List.length (List.map datumC L)
 ≤ 9223372036854775807 → rng IntKind.i64 (left - (↑(List.length (List.map datumC L)) : Int)) ∧ (decide (left - (↑(List.length (List.map datumC L)) : Int) < 0) = true → ObsEq [] []
 ∧ AV.sv (li (-1 : Int)) = AV.sv (li (sz (List.length L + sumBy wD L) left))) ∧ (decide (left - (↑(List.length (List.map datumC L)) : Int) < 0) = false → Tc_szDatumSLa L left (li
 0) (li (left - (↑(List.length (List.map datumC L)) : Int))) = Lc_szDatumSLa L left (0, left - (↑(List.length L) : Int)) ∧ Ic_szDatumSLa L left (List.length L - 0) (Lc_szDatumSLa L
 left (0, left - (↑(List.length L) : Int))) ∧ LoopSem Try.prog (loopAt Try.f130 0) (Ic_szDatumSLa L left) (Yc_szDatumSLa L left) ∧ (Int.NonNeg (sz (List.length L + sumBy wD L) left
 - 0) → ObsEq [] [] ∧ AV.sv (li (sz (List.length L + sumBy wD L) left)) = AV.sv (li (sz (List.length L + sumBy wD L) left))) ∧ (sz (List.length L + sumBy wD L) left = (-1 : Int) →
 ObsEq [] [] ∧ AV.sv (li (-1 : Int)) = AV.sv (li (sz (List.length L + sumBy wD L) left))) ∧ True)) := by kernel_rfl
theorem c_szDatumS (L : List Datum) (left : Int) (h0 : 0 ≤ left) (h : left ≤ 2147483647) (ih : ∀ x ∈ L, ∀ (left : Int) (h0 : 0 ≤ left) (h : left ≤ 2147483647), P_c_szDatum x left) 
 : P_c_szDatumS L left := by
  refine CallOK.ofRun wide (run_c_szDatumS L left) Try.call130 Try.func130 rfl rfl rfl ?_
  with_reducible repeat' (first | apply And.intro | exact flatI | exact flatS | exact rowLens | (intro; skip) | apply obsN | apply obsC | apply obA | apply obM | apply obB | apply svA | apply tupA | apply lcA | apply lcS | apply svC | apply liC | apply lbC | apply lsC | apply vIc | apply vBc | apply vSc | apply vLc | apply mapC | apply Hc_szDatumSLa | apply Ec_szDatumSLa | apply Sc_szDatumSLa | apply EW0c_szDatumSLa | apply EW1c_szDatumSLa)
  all_goals (try simp only [std] at *)
  all_goals (try (first | with_reducible rfl | omega | assumption | exact rowGet (by first | omega | grind) | exact getC (by first | omega | grind) rfl | exact fillStep (by first | omega | grind) | exact fillInit | grind [sz, snocI, snocS, rowSnoc]))

theorem run_c_szDatum_s (x : Datum) (left : Int) : aexec Try.prog (Option.getD (Func.body Try.f54) Code.skip) (entry [] [datumA x, li left] 19) [Orc.br [Orc.fin []] [Orc.call
 [Mode.rd, Mode.rd] [] (AV.sv (li (sz (List.length (Datum.items x) + sumBy wD (Datum.items x)) (left - (↑(List.length (Array.toList (ByteArray.data (Datum.text x)))) : Int))))),
 Orc.br [Orc.fin []] [Orc.fin []]]] (finK Try.prog [ResultVar.tmp 4] [] (AV.sv (li (sz (wD x) left)))) = (List.length (Array.toList (ByteArray.data (Datum.text x))) ≤
 9223372036854775807 → rng IntKind.i64 (left - (↑(List.length (Array.toList (ByteArray.data (Datum.text x)))) : Int)) ∧ (decide (left - (↑(List.length (Array.toList (ByteArray.data
 (Datum.text x)))) : Int) < 0) = true → ObsEq [] [] ∧ AV.sv (li (-1 : Int)) = AV.sv (li (sz (wD x) left))) ∧ (decide (left - (↑(List.length (Array.toList (ByteArray.data
 (Datum.text x)))) : Int) < 0) = false → P_c_szDatumS (Datum.items x) (left - (↑(List.length (Array.toList (ByteArray.data (Datum.text x)))) : Int)) ∧ (decide (sz (List.length
 (Datum.items x) + sumBy wD (Datum.items x)) (left - (↑(List.length (Array.toList (ByteArray.data (Datum.text x)))) : Int)) < 0) = true → ObsEq [] [] ∧ AV.sv (li (-1 : Int)) =
 AV.sv (li (sz (wD x) left))) ∧ (decide (sz (List.length (Datum.items x) + sumBy wD (Datum.items x)) (left - (↑(List.length (Array.toList (ByteArray.data (Datum.text x)))) : Int))
 < 0) = false → ObsEq [] [] ∧ AV.sv (li (sz (List.length (Datum.items x) + sumBy wD (Datum.items x)) (left - (↑(List.length (Array.toList (ByteArray.data (Datum.text x)))) :
 Int)))) = AV.sv (li (sz (wD x) left))))) := by kernel_rfl
theorem c_szDatum_s (x : Datum) (left : Int) (h0 : 0 ≤ left) (h : left ≤ 2147483647) (ih : ∀ z ∈ x.items, ∀ (left : Int) (h0 : 0 ≤ left) (h : left ≤ 2147483647), P_c_szDatum z
 left)  : P_c_szDatum x left := by
  refine CallOK.ofRun wide (run_c_szDatum_s x left) Try.call54 Try.func54 rfl rfl rfl ?_
  with_reducible repeat' (first | apply And.intro | exact flatI | exact flatS | exact rowLens | (intro; skip) | apply obsN | apply obsC | apply obA | apply obM | apply obB | apply svA | apply tupA | apply lcA | apply lcS | apply svC | apply liC | apply lbC | apply lsC | apply vIc | apply vBc | apply vSc | apply vLc | apply mapC | apply c_szDatumS | apply ih)
  all_goals (try simp only [std] at *)
  all_goals (try (first | with_reducible rfl | omega | assumption | exact rowGet (by first | omega | grind) | exact getC (by first | omega | grind) rfl | exact fillStep (by first | omega | grind) | exact fillInit | grind [wD_eq, sz, wS, snocI, snocS, rowSnoc]))
theorem c_szDatum (x : Datum) : ∀ (left : Int) (h0 : 0 ≤ left) (h : left ≤ 2147483647), P_c_szDatum x left := Datum.ind (P := fun x => ∀ (left : Int) (h0 : 0 ≤ left) (h : left ≤ 2147483647), P_c_szDatum x left) (fun x ih left h0 h => c_szDatum_s x left h0 h ih) x

abbrev P_c_szCoreS (L : List Core) (left : Int) : Prop := CallOK Try.prog 110 [] [ll (L.map coreC), li left] [] (.sv (li (sz (L.length + sumBy wC L) left)))
abbrev P_c_szCore (x : Core) (left : Int) : Prop := CallOK Try.prog 23 [] [coreA x, li left] [] (.sv (li (sz (wC x) left)))
def Tc_szCoreSLa (L : List Core) (left : Int) (x0 : SV) (x1 : SV) : St := St.mk (regsOf 27 [(0, AV.sv (ll (List.map coreC L))), (1, AV.sv x1), (5, AV.sv x0)]) [] 0 
def Lc_szCoreSLa (L : List Core) (left : Int) (k : Nat × Int) : St := Tc_szCoreSLa L left (li (↑(Prod.fst k) : Int)) (li (Prod.snd k)) 
def Ic_szCoreSLa (L : List Core) (left : Int) : Nat → St → Prop := Head (Lc_szCoreSLa L left) (fun k => Prod.fst k ≤ List.length L ∧ List.length L ≤ 9223372036854775807 ∧ 0 ≤
 Prod.snd k ∧ Prod.snd k ≤ left ∧ sz (sumBy wC (List.drop (Prod.fst k) L)) (Prod.snd k) = sz (List.length L + sumBy wC L) left) fun k => List.length L - Prod.fst k 
def W0c_szCoreSLa (L : List Core) (left : Int) (x0 : SV) : St := St.mk (regsOf 27 [(1, AV.sv x0)]) [] 0 
def W1c_szCoreSLa (L : List Core) (left : Int) (x0 : SV) : St := St.mk (regsOf 27 [(4, AV.sv x0)]) [] 0 
def Yc_szCoreSLa (L : List Core) (left : Int) : List (Prop × AEx × St) := [(0 ≤ sz (List.length L + sumBy wC L) left, AEx.exit 0, W0c_szCoreSLa L left (li (sz (List.length L +
 sumBy wC L) left))), (sz (List.length L + sumBy wC L) left = (-1 : Int), AEx.ret, W1c_szCoreSLa L left (li (-1 : Int)))]
theorem Hc_szCoreSLa {L : List Core} {left : Int} {k : Nat × Int} {m : Nat} (h : (fun k => Prod.fst k ≤ List.length L ∧ List.length L ≤ 9223372036854775807 ∧ 0 ≤ Prod.snd k ∧
 Prod.snd k ≤ left ∧ sz (sumBy wC (List.drop (Prod.fst k) L)) (Prod.snd k) = sz (List.length L + sumBy wC L) left) k) (hm : (fun k => List.length L - Prod.fst k) k = m) :
 Ic_szCoreSLa L left m (Lc_szCoreSLa L left k) := hm ▸ Head.mk h
theorem Ec_szCoreSLa {L : List Core} {left : Int} {k : Nat × Int} {x0 : SV} {x1 : SV} (h0 : x0 = (li (↑(Prod.fst k) : Int))) (h1 : x1 = (li (Prod.snd k))) : Tc_szCoreSLa L left x0
 x1 = Lc_szCoreSLa L left k := by (rw [h0, h1]; rfl)
theorem EW0c_szCoreSLa {L : List Core} {left : Int} {x0 y0 : SV} (h0 : x0 = y0) : W0c_szCoreSLa L left x0 = W0c_szCoreSLa L left y0 := by rw [h0]
theorem EW1c_szCoreSLa {L : List Core} {left : Int} {x0 y0 : SV} (h0 : x0 = y0) : W1c_szCoreSLa L left x0 = W1c_szCoreSLa L left y0 := by rw [h0]
theorem run_c_szCoreSLa (L : List Core) (left : Int) (k : Nat × Int) : aexec Try.prog (loopAt Try.f110 0) (Lc_szCoreSLa L left k) [Orc.br [Orc.cells (coreF (List.getD L (Prod.fst
 k) default)), Orc.call [Mode.rd, Mode.rd] [] (AV.sv (li (sz (wC (List.getD L (Prod.fst k) default)) (Prod.snd k)))), Orc.br [Orc.ghost (Ghost.sel [] [4]), Orc.out 1] [Orc.ghost
 (Ghost.sel [] [0, 1, 5]), Orc.goto (List.length L - (Prod.fst k + 1)) (Lc_szCoreSLa L left (Prod.fst k + 1, sz (wC (List.getD L (Prod.fst k) default)) (Prod.snd k)))]] [Orc.ghost
 (Ghost.sel [] [1]), Orc.out 0]] (loopK (Ic_szCoreSLa L left) (Yc_szCoreSLa L left) (List.length L - Prod.fst k)) = (List.length (List.map coreC L) ≤ 9223372036854775807 → (decide
 ((↑(Prod.fst k) : Int) < (↑(List.length (List.map coreC L)) : Int)) = true → (0 ≤ (↑(Prod.fst k) : Int) ∧ (List.map coreC L)[Int.toNat (↑(Prod.fst k) : Int)]? = some (coreF
 (List.getD L (Prod.fst k) default))) ∧ P_c_szCore (List.getD L (Prod.fst k) default) (Prod.snd k) ∧ (decide (sz (wC (List.getD L (Prod.fst k) default)) (Prod.snd k) < 0) = true →
 sz (List.length L + sumBy wC L) left = (-1 : Int) ∧ W1c_szCoreSLa L left (li (-1 : Int)) = W1c_szCoreSLa L left (li (-1 : Int))) ∧ (decide (sz (wC (List.getD L (Prod.fst k)
 default)) (Prod.snd k) < 0) = false → rng IntKind.i64 ((↑(Prod.fst k) : Int) + 1) ∧ List.length L - (Prod.fst k + 1) < List.length L - Prod.fst k ∧ Tc_szCoreSLa L left (li
 ((↑(Prod.fst k) : Int) + 1)) (li (sz (wC (List.getD L (Prod.fst k) default)) (Prod.snd k))) = Lc_szCoreSLa L left (Prod.fst k + 1, sz (wC (List.getD L (Prod.fst k) default))
 (Prod.snd k)) ∧ Ic_szCoreSLa L left (List.length L - (Prod.fst k + 1)) (Lc_szCoreSLa L left (Prod.fst k + 1, sz (wC (List.getD L (Prod.fst k) default)) (Prod.snd k))))) ∧ (decide
 ((↑(Prod.fst k) : Int) < (↑(List.length (List.map coreC L)) : Int)) = false → 0 ≤ sz (List.length L + sumBy wC L) left ∧ W0c_szCoreSLa L left (li (Prod.snd k)) = W0c_szCoreSLa L
 left (li (sz (List.length L + sumBy wC L) left)))) := by kernel_rfl
theorem Sc_szCoreSLa (L : List Core) (left : Int) (h0 : 0 ≤ left) (h : left ≤ 2147483647) (ih : ∀ (x : Core), x ∈ L → ∀ (left : Int), 0 ≤ left → left ≤ 2147483647 → P_c_szCore x
 left)  : LoopSem Try.prog (loopAt Try.f110 0) (Ic_szCoreSLa L left) (Yc_szCoreSLa L left) := by
  refine LoopSem.ofHead wide fun k h => ⟨_, _, run_c_szCoreSLa L left k, ?_⟩
  obtain ⟨i, n⟩ := k
  simp only at *
  with_reducible repeat' (first | apply And.intro | exact flatI | exact flatS | exact rowLens | (intro; skip) | apply obsN | apply obsC | apply obA | apply obM | apply obB | apply svA | apply tupA | apply lcA | apply lcS | apply svC | apply liC | apply lbC | apply lsC | apply vIc | apply vBc | apply vSc | apply vLc | apply mapC | apply Hc_szCoreSLa | apply Ec_szCoreSLa | apply EW0c_szCoreSLa | apply EW1c_szCoreSLa | apply ih)
  all_goals (try simp only [std] at *)
  all_goals (try (first | with_reducible rfl | omega | assumption | exact rowGet (by first | omega | grind) | exact getC (by first | omega | grind) rfl | exact fillStep (by first | omega | grind) | exact fillInit | grind [drop_get, sumBy, sz, getD_mem', snocI, snocS, rowSnoc]))
theorem run_c_szCoreS (L : List Core) (left : Int) : aexec Try.prog (Option.getD (Func.body Try.f110) Code.skip) (entry [] [ll (List.map coreC L), li left] 27) [Orc.br [Orc.fin []]
 [Orc.ghost (Ghost.sel [] [0, 1, 5]), Orc.loop (List.length L - 0) (Lc_szCoreSLa L left (0, left - (↑(List.length L) : Int))) (Ic_szCoreSLa L left) [(0 ≤ sz (List.length L + sumBy
 wC L) left, AEx.exit 0, W0c_szCoreSLa L left (li (sz (List.length L + sumBy wC L) left)), [Orc.fin []]), (sz (List.length L + sumBy wC L) left = (-1 : Int), AEx.ret, W1c_szCoreSLa
 L left (li (-1 : Int)), [Orc.fin []])]]] (finK Try.prog [ResultVar.tmp 4] [] (AV.sv (li (sz (List.length L + sumBy wC L) left)))) = (List.length (List.map coreC L) ≤
 9223372036854775807 → rng IntKind.i64 (left - (↑(List.length (List.map coreC L)) : Int)) ∧ (decide (left - (↑(List.length (List.map coreC L)) : Int) < 0) = true → ObsEq [] [] ∧
 AV.sv (li (-1 : Int)) = AV.sv (li (sz (List.length L + sumBy wC L) left))) ∧ (decide (left - (↑(List.length (List.map coreC L)) : Int) < 0) = false → Tc_szCoreSLa L left (li 0)
 (li (left - (↑(List.length (List.map coreC L)) : Int))) = Lc_szCoreSLa L left (0, left - (↑(List.length L) : Int)) ∧ Ic_szCoreSLa L left (List.length L - 0) (Lc_szCoreSLa L left
 (0, left - (↑(List.length L) : Int))) ∧ LoopSem Try.prog (loopAt Try.f110 0) (Ic_szCoreSLa L left) (Yc_szCoreSLa L left) ∧ (Int.NonNeg (sz (List.length L + sumBy wC L) left - 0) →
 ObsEq [] [] ∧ AV.sv (li (sz (List.length L + sumBy wC L) left)) = AV.sv (li (sz (List.length L + sumBy wC L) left))) ∧ (sz (List.length L + sumBy wC L) left = (-1 : Int) → ObsEq
 [] [] ∧ AV.sv (li (-1 : Int)) = AV.sv (li (sz (List.length L + sumBy wC L) left))) ∧ True)) := by kernel_rfl
theorem c_szCoreS (L : List Core) (left : Int) (h0 : 0 ≤ left) (h : left ≤ 2147483647) (ih : ∀ x ∈ L, ∀ (left : Int) (h0 : 0 ≤ left) (h : left ≤ 2147483647), P_c_szCore x left)  :
 P_c_szCoreS L left := by
  refine CallOK.ofRun wide (run_c_szCoreS L left) Try.call110 Try.func110 rfl rfl rfl ?_
  with_reducible repeat' (first | apply And.intro | exact flatI | exact flatS | exact rowLens | (intro; skip) | apply obsN | apply obsC | apply obA | apply obM | apply obB | apply svA | apply tupA | apply lcA | apply lcS | apply svC | apply liC | apply lbC | apply lsC | apply vIc | apply vBc | apply vSc | apply vLc | apply mapC | apply Hc_szCoreSLa | apply Ec_szCoreSLa | apply Sc_szCoreSLa | apply EW0c_szCoreSLa | apply EW1c_szCoreSLa)
  all_goals (try simp only [std] at *)
  all_goals (try (first | with_reducible rfl | omega | assumption | exact rowGet (by first | omega | grind) | exact getC (by first | omega | grind) rfl | exact fillStep (by first | omega | grind) | exact fillInit | grind [sz, snocI, snocS, rowSnoc]))

theorem run_c_szCore_s (x : Core) (left : Int) : aexec Try.prog (Option.getD (Func.body Try.f23) Code.skip) (entry [] [coreA x, li left] 24) [Orc.call [Mode.rd, Mode.rd] [] (AV.sv
 (li (sz (List.length (Core.params x)) left))), Orc.br [Orc.fin []] [Orc.call [Mode.rd, Mode.rd] [] (AV.sv (li (sz (wD (Core.datum x)) (sz (List.length (Core.params x)) left)))),
 Orc.br [Orc.fin []] [Orc.call [Mode.rd, Mode.rd] [] (AV.sv (li (sz (List.length (Core.kids x) + sumBy wC (Core.kids x)) (sz (wD (Core.datum x)) (sz (List.length (Core.params x))
 left))))), Orc.br [Orc.fin []] [Orc.fin []]]]] (finK Try.prog [ResultVar.tmp 4] [] (AV.sv (li (sz (wC x) left)))) = (P_c_szIntS (Core.params x) left ∧ (decide (sz (List.length
 (Core.params x)) left < 0) = true → ObsEq [] [] ∧ AV.sv (li (-1 : Int)) = AV.sv (li (sz (wC x) left))) ∧ (decide (sz (List.length (Core.params x)) left < 0) = false → P_c_szDatum
 (Core.datum x) (sz (List.length (Core.params x)) left) ∧ (decide (sz (wD (Core.datum x)) (sz (List.length (Core.params x)) left) < 0) = true → ObsEq [] [] ∧ AV.sv (li (-1 : Int))
 = AV.sv (li (sz (wC x) left))) ∧ (decide (sz (wD (Core.datum x)) (sz (List.length (Core.params x)) left) < 0) = false → P_c_szCoreS (Core.kids x) (sz (wD (Core.datum x)) (sz
 (List.length (Core.params x)) left)) ∧ (decide (sz (List.length (Core.kids x) + sumBy wC (Core.kids x)) (sz (wD (Core.datum x)) (sz (List.length (Core.params x)) left)) < 0) =
 true → ObsEq [] [] ∧ AV.sv (li (-1 : Int)) = AV.sv (li (sz (wC x) left))) ∧ (decide (sz (List.length (Core.kids x) + sumBy wC (Core.kids x)) (sz (wD (Core.datum x)) (sz
 (List.length (Core.params x)) left)) < 0) = false → ObsEq [] [] ∧ AV.sv (li (sz (List.length (Core.kids x) + sumBy wC (Core.kids x)) (sz (wD (Core.datum x)) (sz (List.length
 (Core.params x)) left)))) = AV.sv (li (sz (wC x) left)))))) := by kernel_rfl
theorem c_szCore_s (x : Core) (left : Int) (h0 : 0 ≤ left) (h : left ≤ 2147483647) (ih : ∀ z ∈ x.kids, ∀ (left : Int) (h0 : 0 ≤ left) (h : left ≤ 2147483647), P_c_szCore z left)  :
 P_c_szCore x left := by
  refine CallOK.ofRun wide (run_c_szCore_s x left) Try.call23 Try.func23 rfl rfl rfl ?_
  with_reducible repeat' (first | apply And.intro | exact flatI | exact flatS | exact rowLens | (intro; skip) | apply obsN | apply obsC | apply obA | apply obM | apply obB | apply svA | apply tupA | apply lcA | apply lcS | apply svC | apply liC | apply lbC | apply lsC | apply vIc | apply vBc | apply vSc | apply vLc | apply mapC | apply c_szIntS | apply c_szDatum | apply c_szCoreS | apply ih)
  all_goals (try simp only [std] at *)
  all_goals (try (first | with_reducible rfl | omega | assumption | exact rowGet (by first | omega | grind) | exact getC (by first | omega | grind) rfl | exact fillStep (by first | omega | grind) | exact fillInit | grind [wC_eq, sz, wS, snocI, snocS, rowSnoc]))
theorem c_szCore (x : Core) : ∀ (left : Int) (h0 : 0 ≤ left) (h : left ≤ 2147483647), P_c_szCore x left := Core.ind (P := fun x => ∀ (left : Int) (h0 : 0 ≤ left) (h : left ≤ 2147483647), P_c_szCore x left) (fun x ih left h0 h => c_szCore_s x left h0 h ih) x

abbrev P_c_szSyntaxS (L : List Syntax) (left : Int) : Prop := CallOK Try.prog 88 [] [ll (L.map syntaxC), li left] [] (.sv (li (sz (L.length + sumBy wY L) left)))
abbrev P_c_szSyntax (x : Syntax) (left : Int) : Prop := CallOK Try.prog 63 [] [syntaxA x, li left] [] (.sv (li (sz (wY x) left)))
def Tc_szSyntaxSLa (L : List Syntax) (left : Int) (x0 : SV) (x1 : SV) : St := St.mk (regsOf 27 [(0, AV.sv (ll (List.map syntaxC L))), (1, AV.sv x1), (5, AV.sv x0)]) [] 0 
def Lc_szSyntaxSLa (L : List Syntax) (left : Int) (k : Nat × Int) : St := Tc_szSyntaxSLa L left (li (↑(Prod.fst k) : Int)) (li (Prod.snd k)) 
def Ic_szSyntaxSLa (L : List Syntax) (left : Int) : Nat → St → Prop := Head (Lc_szSyntaxSLa L left) (fun k => Prod.fst k ≤ List.length L ∧ List.length L ≤ 9223372036854775807 ∧ 0 ≤
 Prod.snd k ∧ Prod.snd k ≤ left ∧ sz (sumBy wY (List.drop (Prod.fst k) L)) (Prod.snd k) = sz (List.length L + sumBy wY L) left) fun k => List.length L - Prod.fst k 
def W0c_szSyntaxSLa (L : List Syntax) (left : Int) (x0 : SV) : St := St.mk (regsOf 27 [(1, AV.sv x0)]) [] 0 
def W1c_szSyntaxSLa (L : List Syntax) (left : Int) (x0 : SV) : St := St.mk (regsOf 27 [(4, AV.sv x0)]) [] 0 
def Yc_szSyntaxSLa (L : List Syntax) (left : Int) : List (Prop × AEx × St) := [(0 ≤ sz (List.length L + sumBy wY L) left, AEx.exit 0, W0c_szSyntaxSLa L left (li (sz (List.length L
 + sumBy wY L) left))), (sz (List.length L + sumBy wY L) left = (-1 : Int), AEx.ret, W1c_szSyntaxSLa L left (li (-1 : Int)))]
theorem Hc_szSyntaxSLa {L : List Syntax} {left : Int} {k : Nat × Int} {m : Nat} (h : (fun k => Prod.fst k ≤ List.length L ∧ List.length L ≤ 9223372036854775807 ∧ 0 ≤ Prod.snd k ∧
 Prod.snd k ≤ left ∧ sz (sumBy wY (List.drop (Prod.fst k) L)) (Prod.snd k) = sz (List.length L + sumBy wY L) left) k) (hm : (fun k => List.length L - Prod.fst k) k = m) :
 Ic_szSyntaxSLa L left m (Lc_szSyntaxSLa L left k) := hm ▸ Head.mk h
theorem Ec_szSyntaxSLa {L : List Syntax} {left : Int} {k : Nat × Int} {x0 : SV} {x1 : SV} (h0 : x0 = (li (↑(Prod.fst k) : Int))) (h1 : x1 = (li (Prod.snd k))) : Tc_szSyntaxSLa L
 left x0 x1 = Lc_szSyntaxSLa L left k := by (rw [h0, h1]; rfl)
theorem EW0c_szSyntaxSLa {L : List Syntax} {left : Int} {x0 y0 : SV} (h0 : x0 = y0) : W0c_szSyntaxSLa L left x0 = W0c_szSyntaxSLa L left y0 := by rw [h0]
theorem EW1c_szSyntaxSLa {L : List Syntax} {left : Int} {x0 y0 : SV} (h0 : x0 = y0) : W1c_szSyntaxSLa L left x0 = W1c_szSyntaxSLa L left y0 := by rw [h0]
theorem run_c_szSyntaxSLa (L : List Syntax) (left : Int) (k : Nat × Int) : aexec Try.prog (loopAt Try.f88 0) (Lc_szSyntaxSLa L left k) [Orc.br [Orc.cells (syntaxF (List.getD L
 (Prod.fst k) default)), Orc.call [Mode.rd, Mode.rd] [] (AV.sv (li (sz (wY (List.getD L (Prod.fst k) default)) (Prod.snd k)))), Orc.br [Orc.ghost (Ghost.sel [] [4]), Orc.out 1]
 [Orc.ghost (Ghost.sel [] [0, 1, 5]), Orc.goto (List.length L - (Prod.fst k + 1)) (Lc_szSyntaxSLa L left (Prod.fst k + 1, sz (wY (List.getD L (Prod.fst k) default)) (Prod.snd
 k)))]] [Orc.ghost (Ghost.sel [] [1]), Orc.out 0]] (loopK (Ic_szSyntaxSLa L left) (Yc_szSyntaxSLa L left) (List.length L - Prod.fst k)) = (List.length (List.map syntaxC L) ≤
 9223372036854775807 → (decide ((↑(Prod.fst k) : Int) < (↑(List.length (List.map syntaxC L)) : Int)) = true → (0 ≤ (↑(Prod.fst k) : Int) ∧ (List.map syntaxC L)[Int.toNat
 (↑(Prod.fst k) : Int)]? = some (syntaxF (List.getD L (Prod.fst k) default))) ∧ P_c_szSyntax (List.getD L (Prod.fst k) default) (Prod.snd k) ∧ (decide (sz (wY (List.getD L
 (Prod.fst k) default)) (Prod.snd k) < 0) = true → sz (List.length L + sumBy wY L) left = (-1 : Int) ∧ W1c_szSyntaxSLa L left (li (-1 : Int)) = W1c_szSyntaxSLa L left (li (-1 :
 Int))) ∧ (decide (sz (wY (List.getD L (Prod.fst k) default)) (Prod.snd k) < 0) = false → rng IntKind.i64 ((↑(Prod.fst k) : Int) + 1) ∧ List.length L - (Prod.fst k + 1) <
 List.length L - Prod.fst k ∧ Tc_szSyntaxSLa L left (li ((↑(Prod.fst k) : Int) + 1)) (li (sz (wY (List.getD L (Prod.fst k) default)) (Prod.snd k))) = Lc_szSyntaxSLa L left
 (Prod.fst k + 1, sz (wY (List.getD L (Prod.fst k) default)) (Prod.snd k)) ∧ Ic_szSyntaxSLa L left (List.length L - (Prod.fst k + 1)) (Lc_szSyntaxSLa L left (Prod.fst k + 1, sz (wY
 (List.getD L (Prod.fst k) default)) (Prod.snd k))))) ∧ (decide ((↑(Prod.fst k) : Int) < (↑(List.length (List.map syntaxC L)) : Int)) = false → 0 ≤ sz (List.length L + sumBy wY L)
 left ∧ W0c_szSyntaxSLa L left (li (Prod.snd k)) = W0c_szSyntaxSLa L left (li (sz (List.length L + sumBy wY L) left)))) := by kernel_rfl
theorem Sc_szSyntaxSLa (L : List Syntax) (left : Int) (h0 : 0 ≤ left) (h : left ≤ 2147483647) (ih : ∀ (x : Syntax), x ∈ L → ∀ (left : Int), 0 ≤ left → left ≤ 2147483647 →
 P_c_szSyntax x left)  : LoopSem Try.prog (loopAt Try.f88 0) (Ic_szSyntaxSLa L left) (Yc_szSyntaxSLa L left) := by
  refine LoopSem.ofHead wide fun k h => ⟨_, _, run_c_szSyntaxSLa L left k, ?_⟩
  obtain ⟨i, n⟩ := k
  simp only at *
  with_reducible repeat' (first | apply And.intro | exact flatI | exact flatS | exact rowLens | (intro; skip) | apply obsN | apply obsC | apply obA | apply obM | apply obB | apply svA | apply tupA | apply lcA | apply lcS | apply svC | apply liC | apply lbC | apply lsC | apply vIc | apply vBc | apply vSc | apply vLc | apply mapC | apply Hc_szSyntaxSLa | apply Ec_szSyntaxSLa | apply EW0c_szSyntaxSLa | apply EW1c_szSyntaxSLa | apply ih)
  all_goals (try simp only [std] at *)
  all_goals (try (first | with_reducible rfl | omega | assumption | exact rowGet (by first | omega | grind) | exact getC (by first | omega | grind) rfl | exact fillStep (by first | omega | grind) | exact fillInit | grind [drop_get, sumBy, sz, getD_mem', snocI, snocS, rowSnoc]))
theorem run_c_szSyntaxS (L : List Syntax) (left : Int) : aexec Try.prog (Option.getD (Func.body Try.f88) Code.skip) (entry [] [ll (List.map syntaxC L), li left] 27) [Orc.br
 [Orc.fin []] [Orc.ghost (Ghost.sel [] [0, 1, 5]), Orc.loop (List.length L - 0) (Lc_szSyntaxSLa L left (0, left - (↑(List.length L) : Int))) (Ic_szSyntaxSLa L left) [(0 ≤ sz
 (List.length L + sumBy wY L) left, AEx.exit 0, W0c_szSyntaxSLa L left (li (sz (List.length L + sumBy wY L) left)), [Orc.fin []]), (sz (List.length L + sumBy wY L) left = (-1 :
 Int), AEx.ret, W1c_szSyntaxSLa L left (li (-1 : Int)), [Orc.fin []])]]] (finK Try.prog [ResultVar.tmp 4] [] (AV.sv (li (sz (List.length L + sumBy wY L) left)))) = (List.length
 (List.map syntaxC L) ≤ 9223372036854775807 → rng IntKind.i64 (left - (↑(List.length (List.map syntaxC L)) : Int)) ∧ (decide (left - (↑(List.length (List.map syntaxC L)) : Int) <
 0) = true → ObsEq [] [] ∧ AV.sv (li (-1 : Int)) = AV.sv (li (sz (List.length L + sumBy wY L) left))) ∧ (decide (left - (↑(List.length (List.map syntaxC L)) : Int) < 0) = false →
 Tc_szSyntaxSLa L left (li 0) (li (left - (↑(List.length (List.map syntaxC L)) : Int))) = Lc_szSyntaxSLa L left (0, left - (↑(List.length L) : Int)) ∧ Ic_szSyntaxSLa L left
 (List.length L - 0) (Lc_szSyntaxSLa L left (0, left - (↑(List.length L) : Int))) ∧ LoopSem Try.prog (loopAt Try.f88 0) (Ic_szSyntaxSLa L left) (Yc_szSyntaxSLa L left) ∧
 (Int.NonNeg (sz (List.length L + sumBy wY L) left - 0) → ObsEq [] [] ∧ AV.sv (li (sz (List.length L + sumBy wY L) left)) = AV.sv (li (sz (List.length L + sumBy wY L) left))) ∧ (sz
 (List.length L + sumBy wY L) left = (-1 : Int) → ObsEq [] [] ∧ AV.sv (li (-1 : Int)) = AV.sv (li (sz (List.length L + sumBy wY L) left))) ∧ True)) := by kernel_rfl
theorem c_szSyntaxS (L : List Syntax) (left : Int) (h0 : 0 ≤ left) (h : left ≤ 2147483647) (ih : ∀ x ∈ L, ∀ (left : Int) (h0 : 0 ≤ left) (h : left ≤ 2147483647), P_c_szSyntax x
 left)  : P_c_szSyntaxS L left := by
  refine CallOK.ofRun wide (run_c_szSyntaxS L left) Try.call88 Try.func88 rfl rfl rfl ?_
  with_reducible repeat' (first | apply And.intro | exact flatI | exact flatS | exact rowLens | (intro; skip) | apply obsN | apply obsC | apply obA | apply obM | apply obB | apply svA | apply tupA | apply lcA | apply lcS | apply svC | apply liC | apply lbC | apply lsC | apply vIc | apply vBc | apply vSc | apply vLc | apply mapC | apply Hc_szSyntaxSLa | apply Ec_szSyntaxSLa | apply Sc_szSyntaxSLa | apply EW0c_szSyntaxSLa | apply EW1c_szSyntaxSLa)
  all_goals (try simp only [std] at *)
  all_goals (try (first | with_reducible rfl | omega | assumption | exact rowGet (by first | omega | grind) | exact getC (by first | omega | grind) rfl | exact fillStep (by first | omega | grind) | exact fillInit | grind [sz, snocI, snocS, rowSnoc]))

theorem run_c_szSyntax_s (x : Syntax) (left : Int) : aexec Try.prog (Option.getD (Func.body Try.f63) Code.skip) (entry [] [syntaxA x, li left] 25) [Orc.br [Orc.fin []] [Orc.call
 [Mode.rd, Mode.rd] [] (AV.sv (li (sz (List.length (Syntax.scopes x)) (left - (↑(List.length (Array.toList (ByteArray.data (Syntax.text x)))) : Int))))), Orc.br [Orc.fin []]
 [Orc.call [Mode.rd, Mode.rd] [] (AV.sv (li (sz (List.length (Syntax.items x) + sumBy wY (Syntax.items x)) (sz (List.length (Syntax.scopes x)) (left - (↑(List.length (Array.toList
 (ByteArray.data (Syntax.text x)))) : Int)))))), Orc.br [Orc.fin []] [Orc.fin []]]]] (finK Try.prog [ResultVar.tmp 4] [] (AV.sv (li (sz (wY x) left)))) = (List.length (Array.toList
 (ByteArray.data (Syntax.text x))) ≤ 9223372036854775807 → rng IntKind.i64 (left - (↑(List.length (Array.toList (ByteArray.data (Syntax.text x)))) : Int)) ∧ (decide (left -
 (↑(List.length (Array.toList (ByteArray.data (Syntax.text x)))) : Int) < 0) = true → ObsEq [] [] ∧ AV.sv (li (-1 : Int)) = AV.sv (li (sz (wY x) left))) ∧ (decide (left -
 (↑(List.length (Array.toList (ByteArray.data (Syntax.text x)))) : Int) < 0) = false → P_c_szIntS (Syntax.scopes x) (left - (↑(List.length (Array.toList (ByteArray.data
 (Syntax.text x)))) : Int)) ∧ (decide (sz (List.length (Syntax.scopes x)) (left - (↑(List.length (Array.toList (ByteArray.data (Syntax.text x)))) : Int)) < 0) = true → ObsEq [] []
 ∧ AV.sv (li (-1 : Int)) = AV.sv (li (sz (wY x) left))) ∧ (decide (sz (List.length (Syntax.scopes x)) (left - (↑(List.length (Array.toList (ByteArray.data (Syntax.text x)))) :
 Int)) < 0) = false → P_c_szSyntaxS (Syntax.items x) (sz (List.length (Syntax.scopes x)) (left - (↑(List.length (Array.toList (ByteArray.data (Syntax.text x)))) : Int))) ∧ (decide
 (sz (List.length (Syntax.items x) + sumBy wY (Syntax.items x)) (sz (List.length (Syntax.scopes x)) (left - (↑(List.length (Array.toList (ByteArray.data (Syntax.text x)))) : Int)))
 < 0) = true → ObsEq [] [] ∧ AV.sv (li (-1 : Int)) = AV.sv (li (sz (wY x) left))) ∧ (decide (sz (List.length (Syntax.items x) + sumBy wY (Syntax.items x)) (sz (List.length
 (Syntax.scopes x)) (left - (↑(List.length (Array.toList (ByteArray.data (Syntax.text x)))) : Int))) < 0) = false → ObsEq [] [] ∧ AV.sv (li (sz (List.length (Syntax.items x) +
 sumBy wY (Syntax.items x)) (sz (List.length (Syntax.scopes x)) (left - (↑(List.length (Array.toList (ByteArray.data (Syntax.text x)))) : Int))))) = AV.sv (li (sz (wY x) left))))))
 := by kernel_rfl
theorem c_szSyntax_s (x : Syntax) (left : Int) (h0 : 0 ≤ left) (h : left ≤ 2147483647) (ih : ∀ z ∈ x.items, ∀ (left : Int) (h0 : 0 ≤ left) (h : left ≤ 2147483647), P_c_szSyntax z
 left)  : P_c_szSyntax x left := by
  refine CallOK.ofRun wide (run_c_szSyntax_s x left) Try.call63 Try.func63 rfl rfl rfl ?_
  with_reducible repeat' (first | apply And.intro | exact flatI | exact flatS | exact rowLens | (intro; skip) | apply obsN | apply obsC | apply obA | apply obM | apply obB | apply svA | apply tupA | apply lcA | apply lcS | apply svC | apply liC | apply lbC | apply lsC | apply vIc | apply vBc | apply vSc | apply vLc | apply mapC | apply c_szIntS | apply c_szSyntaxS | apply ih)
  all_goals (try simp only [std] at *)
  all_goals (try (first | with_reducible rfl | omega | assumption | exact rowGet (by first | omega | grind) | exact getC (by first | omega | grind) rfl | exact fillStep (by first | omega | grind) | exact fillInit | grind [wY_eq, sz, wS, snocI, snocS, rowSnoc]))
theorem c_szSyntax (x : Syntax) : ∀ (left : Int) (h0 : 0 ≤ left) (h : left ≤ 2147483647), P_c_szSyntax x left := Syntax.ind (P := fun x => ∀ (left : Int) (h0 : 0 ≤ left) (h : left ≤ 2147483647), P_c_szSyntax x left) (fun x ih left h0 h => c_szSyntax_s x left h0 h ih) x

abbrev P_c_szBinding (x : Binding) (left : Int) : Prop := CallOK Try.prog 234 [] [bindingA x, li left] [] (.sv (li (sz (wB x) left)))
theorem run_c_szBinding (x : Binding) (left : Int) : aexec Try.prog (Option.getD (Func.body Try.f234) Code.skip) (entry [] [bindingA x, li left] 19) [Orc.br [Orc.fin []] [Orc.call
 [Mode.rd, Mode.rd] [] (AV.sv (li (sz (List.length (Binding.scopes x)) (left - (↑(List.length (Array.toList (ByteArray.data (Binding.text x)))) : Int))))), Orc.br [Orc.fin []]
 [Orc.fin []]]] (finK Try.prog [ResultVar.tmp 4] [] (AV.sv (li (sz (wB x) left)))) = (List.length (Array.toList (ByteArray.data (Binding.text x))) ≤ 9223372036854775807 → rng
 IntKind.i64 (left - (↑(List.length (Array.toList (ByteArray.data (Binding.text x)))) : Int)) ∧ (decide (left - (↑(List.length (Array.toList (ByteArray.data (Binding.text x)))) :
 Int) < 0) = true → ObsEq [] [] ∧ AV.sv (li (-1 : Int)) = AV.sv (li (sz (wB x) left))) ∧ (decide (left - (↑(List.length (Array.toList (ByteArray.data (Binding.text x)))) : Int) <
 0) = false → P_c_szIntS (Binding.scopes x) (left - (↑(List.length (Array.toList (ByteArray.data (Binding.text x)))) : Int)) ∧ (decide (sz (List.length (Binding.scopes x)) (left -
 (↑(List.length (Array.toList (ByteArray.data (Binding.text x)))) : Int)) < 0) = true → ObsEq [] [] ∧ AV.sv (li (-1 : Int)) = AV.sv (li (sz (wB x) left))) ∧ (decide (sz
 (List.length (Binding.scopes x)) (left - (↑(List.length (Array.toList (ByteArray.data (Binding.text x)))) : Int)) < 0) = false → ObsEq [] [] ∧ AV.sv (li (sz (List.length
 (Binding.scopes x)) (left - (↑(List.length (Array.toList (ByteArray.data (Binding.text x)))) : Int)))) = AV.sv (li (sz (wB x) left))))) := by kernel_rfl
theorem c_szBinding (x : Binding) (left : Int) (h0 : 0 ≤ left) (h : left ≤ 2147483647)  : P_c_szBinding x left := by
  refine CallOK.ofRun wide (run_c_szBinding x left) Try.call234 Try.func234 rfl rfl rfl ?_
  with_reducible repeat' (first | apply And.intro | exact flatI | exact flatS | exact rowLens | (intro; skip) | apply obsN | apply obsC | apply obA | apply obM | apply obB | apply svA | apply tupA | apply lcA | apply lcS | apply svC | apply liC | apply lbC | apply lsC | apply vIc | apply vBc | apply vSc | apply vLc | apply mapC | apply c_szIntS)
  all_goals (try simp only [std] at *)
  all_goals (try (first | with_reducible rfl | omega | assumption | exact rowGet (by first | omega | grind) | exact getC (by first | omega | grind) rfl | exact fillStep (by first | omega | grind) | exact fillInit | grind [wB_eq, sz, wS, snocI, snocS, rowSnoc]))

abbrev P_c_szBindingS (L : List Binding) (left : Int) : Prop := CallOK Try.prog 144 [] [ll (L.map bindingC), li left] [] (.sv (li (sz (L.length + sumBy wB L) left)))
def Tc_szBindingSLa (L : List Binding) (left : Int) (x0 : SV) (x1 : SV) : St := St.mk (regsOf 27 [(0, AV.sv (ll (List.map bindingC L))), (1, AV.sv x1), (5, AV.sv x0)]) [] 0 
def Lc_szBindingSLa (L : List Binding) (left : Int) (k : Nat × Int) : St := Tc_szBindingSLa L left (li (↑(Prod.fst k) : Int)) (li (Prod.snd k)) 
def Ic_szBindingSLa (L : List Binding) (left : Int) : Nat → St → Prop := Head (Lc_szBindingSLa L left) (fun k => Prod.fst k ≤ List.length L ∧ List.length L ≤ 9223372036854775807 ∧
 0 ≤ Prod.snd k ∧ Prod.snd k ≤ left ∧ sz (sumBy wB (List.drop (Prod.fst k) L)) (Prod.snd k) = sz (List.length L + sumBy wB L) left) fun k => List.length L - Prod.fst k 
def W0c_szBindingSLa (L : List Binding) (left : Int) (x0 : SV) : St := St.mk (regsOf 27 [(1, AV.sv x0)]) [] 0 
def W1c_szBindingSLa (L : List Binding) (left : Int) (x0 : SV) : St := St.mk (regsOf 27 [(4, AV.sv x0)]) [] 0 
def Yc_szBindingSLa (L : List Binding) (left : Int) : List (Prop × AEx × St) := [(0 ≤ sz (List.length L + sumBy wB L) left, AEx.exit 0, W0c_szBindingSLa L left (li (sz (List.length
 L + sumBy wB L) left))), (sz (List.length L + sumBy wB L) left = (-1 : Int), AEx.ret, W1c_szBindingSLa L left (li (-1 : Int)))]
theorem Hc_szBindingSLa {L : List Binding} {left : Int} {k : Nat × Int} {m : Nat} (h : (fun k => Prod.fst k ≤ List.length L ∧ List.length L ≤ 9223372036854775807 ∧ 0 ≤ Prod.snd k ∧
 Prod.snd k ≤ left ∧ sz (sumBy wB (List.drop (Prod.fst k) L)) (Prod.snd k) = sz (List.length L + sumBy wB L) left) k) (hm : (fun k => List.length L - Prod.fst k) k = m) :
 Ic_szBindingSLa L left m (Lc_szBindingSLa L left k) := hm ▸ Head.mk h
theorem Ec_szBindingSLa {L : List Binding} {left : Int} {k : Nat × Int} {x0 : SV} {x1 : SV} (h0 : x0 = (li (↑(Prod.fst k) : Int))) (h1 : x1 = (li (Prod.snd k))) : Tc_szBindingSLa L
 left x0 x1 = Lc_szBindingSLa L left k := by (rw [h0, h1]; rfl)
theorem EW0c_szBindingSLa {L : List Binding} {left : Int} {x0 y0 : SV} (h0 : x0 = y0) : W0c_szBindingSLa L left x0 = W0c_szBindingSLa L left y0 := by rw [h0]
theorem EW1c_szBindingSLa {L : List Binding} {left : Int} {x0 y0 : SV} (h0 : x0 = y0) : W1c_szBindingSLa L left x0 = W1c_szBindingSLa L left y0 := by rw [h0]
theorem run_c_szBindingSLa (L : List Binding) (left : Int) (k : Nat × Int) : aexec Try.prog (loopAt Try.f144 0) (Lc_szBindingSLa L left k) [Orc.br [Orc.cells (bindingF (List.getD L
 (Prod.fst k) default)), Orc.call [Mode.rd, Mode.rd] [] (AV.sv (li (sz (wB (List.getD L (Prod.fst k) default)) (Prod.snd k)))), Orc.br [Orc.ghost (Ghost.sel [] [4]), Orc.out 1]
 [Orc.ghost (Ghost.sel [] [0, 1, 5]), Orc.goto (List.length L - (Prod.fst k + 1)) (Lc_szBindingSLa L left (Prod.fst k + 1, sz (wB (List.getD L (Prod.fst k) default)) (Prod.snd
 k)))]] [Orc.ghost (Ghost.sel [] [1]), Orc.out 0]] (loopK (Ic_szBindingSLa L left) (Yc_szBindingSLa L left) (List.length L - Prod.fst k)) = (List.length (List.map bindingC L) ≤
 9223372036854775807 → (decide ((↑(Prod.fst k) : Int) < (↑(List.length (List.map bindingC L)) : Int)) = true → (0 ≤ (↑(Prod.fst k) : Int) ∧ (List.map bindingC L)[Int.toNat
 (↑(Prod.fst k) : Int)]? = some (bindingF (List.getD L (Prod.fst k) default))) ∧ P_c_szBinding (List.getD L (Prod.fst k) default) (Prod.snd k) ∧ (decide (sz (wB (List.getD L
 (Prod.fst k) default)) (Prod.snd k) < 0) = true → sz (List.length L + sumBy wB L) left = (-1 : Int) ∧ W1c_szBindingSLa L left (li (-1 : Int)) = W1c_szBindingSLa L left (li (-1 :
 Int))) ∧ (decide (sz (wB (List.getD L (Prod.fst k) default)) (Prod.snd k) < 0) = false → rng IntKind.i64 ((↑(Prod.fst k) : Int) + 1) ∧ List.length L - (Prod.fst k + 1) <
 List.length L - Prod.fst k ∧ Tc_szBindingSLa L left (li ((↑(Prod.fst k) : Int) + 1)) (li (sz (wB (List.getD L (Prod.fst k) default)) (Prod.snd k))) = Lc_szBindingSLa L left
 (Prod.fst k + 1, sz (wB (List.getD L (Prod.fst k) default)) (Prod.snd k)) ∧ Ic_szBindingSLa L left (List.length L - (Prod.fst k + 1)) (Lc_szBindingSLa L left (Prod.fst k + 1, sz
 (wB (List.getD L (Prod.fst k) default)) (Prod.snd k))))) ∧ (decide ((↑(Prod.fst k) : Int) < (↑(List.length (List.map bindingC L)) : Int)) = false → 0 ≤ sz (List.length L + sumBy
 wB L) left ∧ W0c_szBindingSLa L left (li (Prod.snd k)) = W0c_szBindingSLa L left (li (sz (List.length L + sumBy wB L) left)))) := by kernel_rfl
theorem Sc_szBindingSLa (L : List Binding) (left : Int) (h0 : 0 ≤ left) (h : left ≤ 2147483647)  : LoopSem Try.prog (loopAt Try.f144 0) (Ic_szBindingSLa L left) (Yc_szBindingSLa L
 left) := by
  refine LoopSem.ofHead wide fun k h => ⟨_, _, run_c_szBindingSLa L left k, ?_⟩
  obtain ⟨i, n⟩ := k
  simp only at *
  with_reducible repeat' (first | apply And.intro | exact flatI | exact flatS | exact rowLens | (intro; skip) | apply obsN | apply obsC | apply obA | apply obM | apply obB | apply svA | apply tupA | apply lcA | apply lcS | apply svC | apply liC | apply lbC | apply lsC | apply vIc | apply vBc | apply vSc | apply vLc | apply mapC | apply Hc_szBindingSLa | apply Ec_szBindingSLa | apply EW0c_szBindingSLa | apply EW1c_szBindingSLa | apply c_szBinding)
  all_goals (try simp only [std] at *)
  all_goals (try (first | with_reducible rfl | omega | assumption | exact rowGet (by first | omega | grind) | exact getC (by first | omega | grind) rfl | exact fillStep (by first | omega | grind) | exact fillInit | grind [drop_get, sumBy, sz, getD_mem', snocI, snocS, rowSnoc]))
theorem run_c_szBindingS (L : List Binding) (left : Int) : aexec Try.prog (Option.getD (Func.body Try.f144) Code.skip) (entry [] [ll (List.map bindingC L), li left] 27) [Orc.br
 [Orc.fin []] [Orc.ghost (Ghost.sel [] [0, 1, 5]), Orc.loop (List.length L - 0) (Lc_szBindingSLa L left (0, left - (↑(List.length L) : Int))) (Ic_szBindingSLa L left) [(0 ≤ sz
 (List.length L + sumBy wB L) left, AEx.exit 0, W0c_szBindingSLa L left (li (sz (List.length L + sumBy wB L) left)), [Orc.fin []]), (sz (List.length L + sumBy wB L) left = (-1 :
 Int), AEx.ret, W1c_szBindingSLa L left (li (-1 : Int)), [Orc.fin []])]]] (finK Try.prog [ResultVar.tmp 4] [] (AV.sv (li (sz (List.length L + sumBy wB L) left)))) = (List.length
 (List.map bindingC L) ≤ 9223372036854775807 → rng IntKind.i64 (left - (↑(List.length (List.map bindingC L)) : Int)) ∧ (decide (left - (↑(List.length (List.map bindingC L)) : Int)
 < 0) = true → ObsEq [] [] ∧ AV.sv (li (-1 : Int)) = AV.sv (li (sz (List.length L + sumBy wB L) left))) ∧ (decide (left - (↑(List.length (List.map bindingC L)) : Int) < 0) = false
 → Tc_szBindingSLa L left (li 0) (li (left - (↑(List.length (List.map bindingC L)) : Int))) = Lc_szBindingSLa L left (0, left - (↑(List.length L) : Int)) ∧ Ic_szBindingSLa L left
 (List.length L - 0) (Lc_szBindingSLa L left (0, left - (↑(List.length L) : Int))) ∧ LoopSem Try.prog (loopAt Try.f144 0) (Ic_szBindingSLa L left) (Yc_szBindingSLa L left) ∧
 (Int.NonNeg (sz (List.length L + sumBy wB L) left - 0) → ObsEq [] [] ∧ AV.sv (li (sz (List.length L + sumBy wB L) left)) = AV.sv (li (sz (List.length L + sumBy wB L) left))) ∧ (sz
 (List.length L + sumBy wB L) left = (-1 : Int) → ObsEq [] [] ∧ AV.sv (li (-1 : Int)) = AV.sv (li (sz (List.length L + sumBy wB L) left))) ∧ True)) := by kernel_rfl
theorem c_szBindingS (L : List Binding) (left : Int) (h0 : 0 ≤ left) (h : left ≤ 2147483647)  : P_c_szBindingS L left := by
  refine CallOK.ofRun wide (run_c_szBindingS L left) Try.call144 Try.func144 rfl rfl rfl ?_
  with_reducible repeat' (first | apply And.intro | exact flatI | exact flatS | exact rowLens | (intro; skip) | apply obsN | apply obsC | apply obA | apply obM | apply obB | apply svA | apply tupA | apply lcA | apply lcS | apply svC | apply liC | apply lbC | apply lsC | apply vIc | apply vBc | apply vSc | apply vLc | apply mapC | apply Hc_szBindingSLa | apply Ec_szBindingSLa | apply Sc_szBindingSLa | apply EW0c_szBindingSLa | apply EW1c_szBindingSLa | apply c_szBinding)
  all_goals (try simp only [std] at *)
  all_goals (try (first | with_reducible rfl | omega | assumption | exact rowGet (by first | omega | grind) | exact getC (by first | omega | grind) rfl | exact fillStep (by first | omega | grind) | exact fillInit | grind [sz, snocI, snocS, rowSnoc]))

abbrev P_c_szRules (x : Rules) (left : Int) : Prop := CallOK Try.prog 97 [] [rulesA x, li left] [] (.sv (li (sz (wR x) left)))
theorem run_c_szRules (x : Rules) (left : Int) : aexec Try.prog (Option.getD (Func.body Try.f97) Code.skip) (entry [] [rulesA x, li left] 24) [Orc.call [Mode.rd, Mode.rd] [] (AV.sv
 (li (sz (List.length (Rules.literals x) + sumBy wY (Rules.literals x)) left))), Orc.br [Orc.fin []] [Orc.call [Mode.rd, Mode.rd] [] (AV.sv (li (sz (List.length (Rules.patterns x)
 + sumBy wY (Rules.patterns x)) (sz (List.length (Rules.literals x) + sumBy wY (Rules.literals x)) left)))), Orc.br [Orc.fin []] [Orc.call [Mode.rd, Mode.rd] [] (AV.sv (li (sz
 (List.length (Rules.templates x) + sumBy wY (Rules.templates x)) (sz (List.length (Rules.patterns x) + sumBy wY (Rules.patterns x)) (sz (List.length (Rules.literals x) + sumBy wY
 (Rules.literals x)) left))))), Orc.br [Orc.fin []] [Orc.fin []]]]] (finK Try.prog [ResultVar.tmp 4] [] (AV.sv (li (sz (wR x) left)))) = (P_c_szSyntaxS (Rules.literals x) left ∧
 (decide (sz (List.length (Rules.literals x) + sumBy wY (Rules.literals x)) left < 0) = true → ObsEq [] [] ∧ AV.sv (li (-1 : Int)) = AV.sv (li (sz (wR x) left))) ∧ (decide (sz
 (List.length (Rules.literals x) + sumBy wY (Rules.literals x)) left < 0) = false → P_c_szSyntaxS (Rules.patterns x) (sz (List.length (Rules.literals x) + sumBy wY (Rules.literals
 x)) left) ∧ (decide (sz (List.length (Rules.patterns x) + sumBy wY (Rules.patterns x)) (sz (List.length (Rules.literals x) + sumBy wY (Rules.literals x)) left) < 0) = true → ObsEq
 [] [] ∧ AV.sv (li (-1 : Int)) = AV.sv (li (sz (wR x) left))) ∧ (decide (sz (List.length (Rules.patterns x) + sumBy wY (Rules.patterns x)) (sz (List.length (Rules.literals x) +
 sumBy wY (Rules.literals x)) left) < 0) = false → P_c_szSyntaxS (Rules.templates x) (sz (List.length (Rules.patterns x) + sumBy wY (Rules.patterns x)) (sz (List.length
 (Rules.literals x) + sumBy wY (Rules.literals x)) left)) ∧ (decide (sz (List.length (Rules.templates x) + sumBy wY (Rules.templates x)) (sz (List.length (Rules.patterns x) + sumBy
 wY (Rules.patterns x)) (sz (List.length (Rules.literals x) + sumBy wY (Rules.literals x)) left)) < 0) = true → ObsEq [] [] ∧ AV.sv (li (-1 : Int)) = AV.sv (li (sz (wR x) left))) ∧
 (decide (sz (List.length (Rules.templates x) + sumBy wY (Rules.templates x)) (sz (List.length (Rules.patterns x) + sumBy wY (Rules.patterns x)) (sz (List.length (Rules.literals x)
 + sumBy wY (Rules.literals x)) left)) < 0) = false → ObsEq [] [] ∧ AV.sv (li (sz (List.length (Rules.templates x) + sumBy wY (Rules.templates x)) (sz (List.length (Rules.patterns
 x) + sumBy wY (Rules.patterns x)) (sz (List.length (Rules.literals x) + sumBy wY (Rules.literals x)) left)))) = AV.sv (li (sz (wR x) left)))))) := by kernel_rfl
theorem c_szRules (x : Rules) (left : Int) (h0 : 0 ≤ left) (h : left ≤ 2147483647)  : P_c_szRules x left := by
  refine CallOK.ofRun wide (run_c_szRules x left) Try.call97 Try.func97 rfl rfl rfl ?_
  with_reducible repeat' (first | apply And.intro | exact flatI | exact flatS | exact rowLens | (intro; skip) | apply obsN | apply obsC | apply obA | apply obM | apply obB | apply svA | apply tupA | apply lcA | apply lcS | apply svC | apply liC | apply lbC | apply lsC | apply vIc | apply vBc | apply vSc | apply vLc | apply mapC | apply c_szSyntaxS | apply c_szSyntax)
  all_goals (try simp only [std] at *)
  all_goals (try (first | with_reducible rfl | omega | assumption | exact rowGet (by first | omega | grind) | exact getC (by first | omega | grind) rfl | exact fillStep (by first | omega | grind) | exact fillInit | grind [wR_eq, sz, wS, snocI, snocS, rowSnoc]))

abbrev P_c_szRulesS (L : List Rules) (left : Int) : Prop := CallOK Try.prog 145 [] [ll (L.map rulesC), li left] [] (.sv (li (sz (L.length + sumBy wR L) left)))
def Tc_szRulesSLa (L : List Rules) (left : Int) (x0 : SV) (x1 : SV) : St := St.mk (regsOf 27 [(0, AV.sv (ll (List.map rulesC L))), (1, AV.sv x1), (5, AV.sv x0)]) [] 0 
def Lc_szRulesSLa (L : List Rules) (left : Int) (k : Nat × Int) : St := Tc_szRulesSLa L left (li (↑(Prod.fst k) : Int)) (li (Prod.snd k)) 
def Ic_szRulesSLa (L : List Rules) (left : Int) : Nat → St → Prop := Head (Lc_szRulesSLa L left) (fun k => Prod.fst k ≤ List.length L ∧ List.length L ≤ 9223372036854775807 ∧ 0 ≤
 Prod.snd k ∧ Prod.snd k ≤ left ∧ sz (sumBy wR (List.drop (Prod.fst k) L)) (Prod.snd k) = sz (List.length L + sumBy wR L) left) fun k => List.length L - Prod.fst k 
def W0c_szRulesSLa (L : List Rules) (left : Int) (x0 : SV) : St := St.mk (regsOf 27 [(1, AV.sv x0)]) [] 0 
def W1c_szRulesSLa (L : List Rules) (left : Int) (x0 : SV) : St := St.mk (regsOf 27 [(4, AV.sv x0)]) [] 0 
def Yc_szRulesSLa (L : List Rules) (left : Int) : List (Prop × AEx × St) := [(0 ≤ sz (List.length L + sumBy wR L) left, AEx.exit 0, W0c_szRulesSLa L left (li (sz (List.length L +
 sumBy wR L) left))), (sz (List.length L + sumBy wR L) left = (-1 : Int), AEx.ret, W1c_szRulesSLa L left (li (-1 : Int)))]
theorem Hc_szRulesSLa {L : List Rules} {left : Int} {k : Nat × Int} {m : Nat} (h : (fun k => Prod.fst k ≤ List.length L ∧ List.length L ≤ 9223372036854775807 ∧ 0 ≤ Prod.snd k ∧
 Prod.snd k ≤ left ∧ sz (sumBy wR (List.drop (Prod.fst k) L)) (Prod.snd k) = sz (List.length L + sumBy wR L) left) k) (hm : (fun k => List.length L - Prod.fst k) k = m) :
 Ic_szRulesSLa L left m (Lc_szRulesSLa L left k) := hm ▸ Head.mk h
theorem Ec_szRulesSLa {L : List Rules} {left : Int} {k : Nat × Int} {x0 : SV} {x1 : SV} (h0 : x0 = (li (↑(Prod.fst k) : Int))) (h1 : x1 = (li (Prod.snd k))) : Tc_szRulesSLa L left
 x0 x1 = Lc_szRulesSLa L left k := by (rw [h0, h1]; rfl)
theorem EW0c_szRulesSLa {L : List Rules} {left : Int} {x0 y0 : SV} (h0 : x0 = y0) : W0c_szRulesSLa L left x0 = W0c_szRulesSLa L left y0 := by rw [h0]
theorem EW1c_szRulesSLa {L : List Rules} {left : Int} {x0 y0 : SV} (h0 : x0 = y0) : W1c_szRulesSLa L left x0 = W1c_szRulesSLa L left y0 := by rw [h0]
theorem run_c_szRulesSLa (L : List Rules) (left : Int) (k : Nat × Int) : aexec Try.prog (loopAt Try.f145 0) (Lc_szRulesSLa L left k) [Orc.br [Orc.cells (rulesF (List.getD L
 (Prod.fst k) default)), Orc.call [Mode.rd, Mode.rd] [] (AV.sv (li (sz (wR (List.getD L (Prod.fst k) default)) (Prod.snd k)))), Orc.br [Orc.ghost (Ghost.sel [] [4]), Orc.out 1]
 [Orc.ghost (Ghost.sel [] [0, 1, 5]), Orc.goto (List.length L - (Prod.fst k + 1)) (Lc_szRulesSLa L left (Prod.fst k + 1, sz (wR (List.getD L (Prod.fst k) default)) (Prod.snd k)))]]
 [Orc.ghost (Ghost.sel [] [1]), Orc.out 0]] (loopK (Ic_szRulesSLa L left) (Yc_szRulesSLa L left) (List.length L - Prod.fst k)) = (List.length (List.map rulesC L) ≤
 9223372036854775807 → (decide ((↑(Prod.fst k) : Int) < (↑(List.length (List.map rulesC L)) : Int)) = true → (0 ≤ (↑(Prod.fst k) : Int) ∧ (List.map rulesC L)[Int.toNat (↑(Prod.fst
 k) : Int)]? = some (rulesF (List.getD L (Prod.fst k) default))) ∧ P_c_szRules (List.getD L (Prod.fst k) default) (Prod.snd k) ∧ (decide (sz (wR (List.getD L (Prod.fst k) default))
 (Prod.snd k) < 0) = true → sz (List.length L + sumBy wR L) left = (-1 : Int) ∧ W1c_szRulesSLa L left (li (-1 : Int)) = W1c_szRulesSLa L left (li (-1 : Int))) ∧ (decide (sz (wR
 (List.getD L (Prod.fst k) default)) (Prod.snd k) < 0) = false → rng IntKind.i64 ((↑(Prod.fst k) : Int) + 1) ∧ List.length L - (Prod.fst k + 1) < List.length L - Prod.fst k ∧
 Tc_szRulesSLa L left (li ((↑(Prod.fst k) : Int) + 1)) (li (sz (wR (List.getD L (Prod.fst k) default)) (Prod.snd k))) = Lc_szRulesSLa L left (Prod.fst k + 1, sz (wR (List.getD L
 (Prod.fst k) default)) (Prod.snd k)) ∧ Ic_szRulesSLa L left (List.length L - (Prod.fst k + 1)) (Lc_szRulesSLa L left (Prod.fst k + 1, sz (wR (List.getD L (Prod.fst k) default))
 (Prod.snd k))))) ∧ (decide ((↑(Prod.fst k) : Int) < (↑(List.length (List.map rulesC L)) : Int)) = false → 0 ≤ sz (List.length L + sumBy wR L) left ∧ W0c_szRulesSLa L left (li
 (Prod.snd k)) = W0c_szRulesSLa L left (li (sz (List.length L + sumBy wR L) left)))) := by kernel_rfl
theorem Sc_szRulesSLa (L : List Rules) (left : Int) (h0 : 0 ≤ left) (h : left ≤ 2147483647)  : LoopSem Try.prog (loopAt Try.f145 0) (Ic_szRulesSLa L left) (Yc_szRulesSLa L left) :=
 by
  refine LoopSem.ofHead wide fun k h => ⟨_, _, run_c_szRulesSLa L left k, ?_⟩
  obtain ⟨i, n⟩ := k
  simp only at *
  with_reducible repeat' (first | apply And.intro | exact flatI | exact flatS | exact rowLens | (intro; skip) | apply obsN | apply obsC | apply obA | apply obM | apply obB | apply svA | apply tupA | apply lcA | apply lcS | apply svC | apply liC | apply lbC | apply lsC | apply vIc | apply vBc | apply vSc | apply vLc | apply mapC | apply Hc_szRulesSLa | apply Ec_szRulesSLa | apply EW0c_szRulesSLa | apply EW1c_szRulesSLa | apply c_szRules)
  all_goals (try simp only [std] at *)
  all_goals (try (first | with_reducible rfl | omega | assumption | exact rowGet (by first | omega | grind) | exact getC (by first | omega | grind) rfl | exact fillStep (by first | omega | grind) | exact fillInit | grind [drop_get, sumBy, sz, getD_mem', snocI, snocS, rowSnoc]))
theorem run_c_szRulesS (L : List Rules) (left : Int) : aexec Try.prog (Option.getD (Func.body Try.f145) Code.skip) (entry [] [ll (List.map rulesC L), li left] 27) [Orc.br [Orc.fin
 []] [Orc.ghost (Ghost.sel [] [0, 1, 5]), Orc.loop (List.length L - 0) (Lc_szRulesSLa L left (0, left - (↑(List.length L) : Int))) (Ic_szRulesSLa L left) [(0 ≤ sz (List.length L +
 sumBy wR L) left, AEx.exit 0, W0c_szRulesSLa L left (li (sz (List.length L + sumBy wR L) left)), [Orc.fin []]), (sz (List.length L + sumBy wR L) left = (-1 : Int), AEx.ret,
 W1c_szRulesSLa L left (li (-1 : Int)), [Orc.fin []])]]] (finK Try.prog [ResultVar.tmp 4] [] (AV.sv (li (sz (List.length L + sumBy wR L) left)))) = (List.length (List.map rulesC L)
 ≤ 9223372036854775807 → rng IntKind.i64 (left - (↑(List.length (List.map rulesC L)) : Int)) ∧ (decide (left - (↑(List.length (List.map rulesC L)) : Int) < 0) = true → ObsEq [] []
 ∧ AV.sv (li (-1 : Int)) = AV.sv (li (sz (List.length L + sumBy wR L) left))) ∧ (decide (left - (↑(List.length (List.map rulesC L)) : Int) < 0) = false → Tc_szRulesSLa L left (li
 0) (li (left - (↑(List.length (List.map rulesC L)) : Int))) = Lc_szRulesSLa L left (0, left - (↑(List.length L) : Int)) ∧ Ic_szRulesSLa L left (List.length L - 0) (Lc_szRulesSLa L
 left (0, left - (↑(List.length L) : Int))) ∧ LoopSem Try.prog (loopAt Try.f145 0) (Ic_szRulesSLa L left) (Yc_szRulesSLa L left) ∧ (Int.NonNeg (sz (List.length L + sumBy wR L) left
 - 0) → ObsEq [] [] ∧ AV.sv (li (sz (List.length L + sumBy wR L) left)) = AV.sv (li (sz (List.length L + sumBy wR L) left))) ∧ (sz (List.length L + sumBy wR L) left = (-1 : Int) →
 ObsEq [] [] ∧ AV.sv (li (-1 : Int)) = AV.sv (li (sz (List.length L + sumBy wR L) left))) ∧ True)) := by kernel_rfl
theorem c_szRulesS (L : List Rules) (left : Int) (h0 : 0 ≤ left) (h : left ≤ 2147483647)  : P_c_szRulesS L left := by
  refine CallOK.ofRun wide (run_c_szRulesS L left) Try.call145 Try.func145 rfl rfl rfl ?_
  with_reducible repeat' (first | apply And.intro | exact flatI | exact flatS | exact rowLens | (intro; skip) | apply obsN | apply obsC | apply obA | apply obM | apply obB | apply svA | apply tupA | apply lcA | apply lcS | apply svC | apply liC | apply lbC | apply lsC | apply vIc | apply vBc | apply vSc | apply vLc | apply mapC | apply Hc_szRulesSLa | apply Ec_szRulesSLa | apply Sc_szRulesSLa | apply EW0c_szRulesSLa | apply EW1c_szRulesSLa | apply c_szRules)
  all_goals (try simp only [std] at *)
  all_goals (try (first | with_reducible rfl | omega | assumption | exact rowGet (by first | omega | grind) | exact getC (by first | omega | grind) rfl | exact fillStep (by first | omega | grind) | exact fillInit | grind [sz, snocI, snocS, rowSnoc]))

abbrev P_c_szCaptureS (L : List Capture) (left : Int) : Prop := CallOK Try.prog 62 [] [ll (L.map captureC), li left] [] (.sv (li (sz (L.length + sumBy wP L) left)))
abbrev P_c_szCapture (x : Capture) (left : Int) : Prop := CallOK Try.prog 160 [] [captureA x, li left] [] (.sv (li (sz (wP x) left)))
def Tc_szCaptureSLa (L : List Capture) (left : Int) (x0 : SV) (x1 : SV) : St := St.mk (regsOf 27 [(0, AV.sv (ll (List.map captureC L))), (1, AV.sv x1), (5, AV.sv x0)]) [] 0 
def Lc_szCaptureSLa (L : List Capture) (left : Int) (k : Nat × Int) : St := Tc_szCaptureSLa L left (li (↑(Prod.fst k) : Int)) (li (Prod.snd k)) 
def Ic_szCaptureSLa (L : List Capture) (left : Int) : Nat → St → Prop := Head (Lc_szCaptureSLa L left) (fun k => Prod.fst k ≤ List.length L ∧ List.length L ≤ 9223372036854775807 ∧
 0 ≤ Prod.snd k ∧ Prod.snd k ≤ left ∧ sz (sumBy wP (List.drop (Prod.fst k) L)) (Prod.snd k) = sz (List.length L + sumBy wP L) left) fun k => List.length L - Prod.fst k 
def W0c_szCaptureSLa (L : List Capture) (left : Int) (x0 : SV) : St := St.mk (regsOf 27 [(1, AV.sv x0)]) [] 0 
def W1c_szCaptureSLa (L : List Capture) (left : Int) (x0 : SV) : St := St.mk (regsOf 27 [(4, AV.sv x0)]) [] 0 
def Yc_szCaptureSLa (L : List Capture) (left : Int) : List (Prop × AEx × St) := [(0 ≤ sz (List.length L + sumBy wP L) left, AEx.exit 0, W0c_szCaptureSLa L left (li (sz (List.length
 L + sumBy wP L) left))), (sz (List.length L + sumBy wP L) left = (-1 : Int), AEx.ret, W1c_szCaptureSLa L left (li (-1 : Int)))]
theorem Hc_szCaptureSLa {L : List Capture} {left : Int} {k : Nat × Int} {m : Nat} (h : (fun k => Prod.fst k ≤ List.length L ∧ List.length L ≤ 9223372036854775807 ∧ 0 ≤ Prod.snd k ∧
 Prod.snd k ≤ left ∧ sz (sumBy wP (List.drop (Prod.fst k) L)) (Prod.snd k) = sz (List.length L + sumBy wP L) left) k) (hm : (fun k => List.length L - Prod.fst k) k = m) :
 Ic_szCaptureSLa L left m (Lc_szCaptureSLa L left k) := hm ▸ Head.mk h
theorem Ec_szCaptureSLa {L : List Capture} {left : Int} {k : Nat × Int} {x0 : SV} {x1 : SV} (h0 : x0 = (li (↑(Prod.fst k) : Int))) (h1 : x1 = (li (Prod.snd k))) : Tc_szCaptureSLa L
 left x0 x1 = Lc_szCaptureSLa L left k := by (rw [h0, h1]; rfl)
theorem EW0c_szCaptureSLa {L : List Capture} {left : Int} {x0 y0 : SV} (h0 : x0 = y0) : W0c_szCaptureSLa L left x0 = W0c_szCaptureSLa L left y0 := by rw [h0]
theorem EW1c_szCaptureSLa {L : List Capture} {left : Int} {x0 y0 : SV} (h0 : x0 = y0) : W1c_szCaptureSLa L left x0 = W1c_szCaptureSLa L left y0 := by rw [h0]
theorem run_c_szCaptureSLa (L : List Capture) (left : Int) (k : Nat × Int) : aexec Try.prog (loopAt Try.f62 0) (Lc_szCaptureSLa L left k) [Orc.br [Orc.cells (captureF (List.getD L
 (Prod.fst k) default)), Orc.call [Mode.rd, Mode.rd] [] (AV.sv (li (sz (wP (List.getD L (Prod.fst k) default)) (Prod.snd k)))), Orc.br [Orc.ghost (Ghost.sel [] [4]), Orc.out 1]
 [Orc.ghost (Ghost.sel [] [0, 1, 5]), Orc.goto (List.length L - (Prod.fst k + 1)) (Lc_szCaptureSLa L left (Prod.fst k + 1, sz (wP (List.getD L (Prod.fst k) default)) (Prod.snd
 k)))]] [Orc.ghost (Ghost.sel [] [1]), Orc.out 0]] (loopK (Ic_szCaptureSLa L left) (Yc_szCaptureSLa L left) (List.length L - Prod.fst k)) = (List.length (List.map captureC L) ≤
 9223372036854775807 → (decide ((↑(Prod.fst k) : Int) < (↑(List.length (List.map captureC L)) : Int)) = true → (0 ≤ (↑(Prod.fst k) : Int) ∧ (List.map captureC L)[Int.toNat
 (↑(Prod.fst k) : Int)]? = some (captureF (List.getD L (Prod.fst k) default))) ∧ P_c_szCapture (List.getD L (Prod.fst k) default) (Prod.snd k) ∧ (decide (sz (wP (List.getD L
 (Prod.fst k) default)) (Prod.snd k) < 0) = true → sz (List.length L + sumBy wP L) left = (-1 : Int) ∧ W1c_szCaptureSLa L left (li (-1 : Int)) = W1c_szCaptureSLa L left (li (-1 :
 Int))) ∧ (decide (sz (wP (List.getD L (Prod.fst k) default)) (Prod.snd k) < 0) = false → rng IntKind.i64 ((↑(Prod.fst k) : Int) + 1) ∧ List.length L - (Prod.fst k + 1) <
 List.length L - Prod.fst k ∧ Tc_szCaptureSLa L left (li ((↑(Prod.fst k) : Int) + 1)) (li (sz (wP (List.getD L (Prod.fst k) default)) (Prod.snd k))) = Lc_szCaptureSLa L left
 (Prod.fst k + 1, sz (wP (List.getD L (Prod.fst k) default)) (Prod.snd k)) ∧ Ic_szCaptureSLa L left (List.length L - (Prod.fst k + 1)) (Lc_szCaptureSLa L left (Prod.fst k + 1, sz
 (wP (List.getD L (Prod.fst k) default)) (Prod.snd k))))) ∧ (decide ((↑(Prod.fst k) : Int) < (↑(List.length (List.map captureC L)) : Int)) = false → 0 ≤ sz (List.length L + sumBy
 wP L) left ∧ W0c_szCaptureSLa L left (li (Prod.snd k)) = W0c_szCaptureSLa L left (li (sz (List.length L + sumBy wP L) left)))) := by kernel_rfl
theorem Sc_szCaptureSLa (L : List Capture) (left : Int) (h0 : 0 ≤ left) (h : left ≤ 2147483647) (ih : ∀ (x : Capture), x ∈ L → ∀ (left : Int), 0 ≤ left → left ≤ 2147483647 →
 P_c_szCapture x left)  : LoopSem Try.prog (loopAt Try.f62 0) (Ic_szCaptureSLa L left) (Yc_szCaptureSLa L left) := by
  refine LoopSem.ofHead wide fun k h => ⟨_, _, run_c_szCaptureSLa L left k, ?_⟩
  obtain ⟨i, n⟩ := k
  simp only at *
  with_reducible repeat' (first | apply And.intro | exact flatI | exact flatS | exact rowLens | (intro; skip) | apply obsN | apply obsC | apply obA | apply obM | apply obB | apply svA | apply tupA | apply lcA | apply lcS | apply svC | apply liC | apply lbC | apply lsC | apply vIc | apply vBc | apply vSc | apply vLc | apply mapC | apply Hc_szCaptureSLa | apply Ec_szCaptureSLa | apply EW0c_szCaptureSLa | apply EW1c_szCaptureSLa | apply ih)
  all_goals (try simp only [std] at *)
  all_goals (try (first | with_reducible rfl | omega | assumption | exact rowGet (by first | omega | grind) | exact getC (by first | omega | grind) rfl | exact fillStep (by first | omega | grind) | exact fillInit | grind [drop_get, sumBy, sz, getD_mem', snocI, snocS, rowSnoc]))
theorem run_c_szCaptureS (L : List Capture) (left : Int) : aexec Try.prog (Option.getD (Func.body Try.f62) Code.skip) (entry [] [ll (List.map captureC L), li left] 27) [Orc.br
 [Orc.fin []] [Orc.ghost (Ghost.sel [] [0, 1, 5]), Orc.loop (List.length L - 0) (Lc_szCaptureSLa L left (0, left - (↑(List.length L) : Int))) (Ic_szCaptureSLa L left) [(0 ≤ sz
 (List.length L + sumBy wP L) left, AEx.exit 0, W0c_szCaptureSLa L left (li (sz (List.length L + sumBy wP L) left)), [Orc.fin []]), (sz (List.length L + sumBy wP L) left = (-1 :
 Int), AEx.ret, W1c_szCaptureSLa L left (li (-1 : Int)), [Orc.fin []])]]] (finK Try.prog [ResultVar.tmp 4] [] (AV.sv (li (sz (List.length L + sumBy wP L) left)))) = (List.length
 (List.map captureC L) ≤ 9223372036854775807 → rng IntKind.i64 (left - (↑(List.length (List.map captureC L)) : Int)) ∧ (decide (left - (↑(List.length (List.map captureC L)) : Int)
 < 0) = true → ObsEq [] [] ∧ AV.sv (li (-1 : Int)) = AV.sv (li (sz (List.length L + sumBy wP L) left))) ∧ (decide (left - (↑(List.length (List.map captureC L)) : Int) < 0) = false
 → Tc_szCaptureSLa L left (li 0) (li (left - (↑(List.length (List.map captureC L)) : Int))) = Lc_szCaptureSLa L left (0, left - (↑(List.length L) : Int)) ∧ Ic_szCaptureSLa L left
 (List.length L - 0) (Lc_szCaptureSLa L left (0, left - (↑(List.length L) : Int))) ∧ LoopSem Try.prog (loopAt Try.f62 0) (Ic_szCaptureSLa L left) (Yc_szCaptureSLa L left) ∧
 (Int.NonNeg (sz (List.length L + sumBy wP L) left - 0) → ObsEq [] [] ∧ AV.sv (li (sz (List.length L + sumBy wP L) left)) = AV.sv (li (sz (List.length L + sumBy wP L) left))) ∧ (sz
 (List.length L + sumBy wP L) left = (-1 : Int) → ObsEq [] [] ∧ AV.sv (li (-1 : Int)) = AV.sv (li (sz (List.length L + sumBy wP L) left))) ∧ True)) := by kernel_rfl
theorem c_szCaptureS (L : List Capture) (left : Int) (h0 : 0 ≤ left) (h : left ≤ 2147483647) (ih : ∀ x ∈ L, ∀ (left : Int) (h0 : 0 ≤ left) (h : left ≤ 2147483647), P_c_szCapture x
 left)  : P_c_szCaptureS L left := by
  refine CallOK.ofRun wide (run_c_szCaptureS L left) Try.call62 Try.func62 rfl rfl rfl ?_
  with_reducible repeat' (first | apply And.intro | exact flatI | exact flatS | exact rowLens | (intro; skip) | apply obsN | apply obsC | apply obA | apply obM | apply obB | apply svA | apply tupA | apply lcA | apply lcS | apply svC | apply liC | apply lbC | apply lsC | apply vIc | apply vBc | apply vSc | apply vLc | apply mapC | apply Hc_szCaptureSLa | apply Ec_szCaptureSLa | apply Sc_szCaptureSLa | apply EW0c_szCaptureSLa | apply EW1c_szCaptureSLa)
  all_goals (try simp only [std] at *)
  all_goals (try (first | with_reducible rfl | omega | assumption | exact rowGet (by first | omega | grind) | exact getC (by first | omega | grind) rfl | exact fillStep (by first | omega | grind) | exact fillInit | grind [sz, snocI, snocS, rowSnoc]))

theorem run_c_szCapture_s (x : Capture) (left : Int) : aexec Try.prog (Option.getD (Func.body Try.f160) Code.skip) (entry [] [captureA x, li left] 24) [Orc.call [Mode.rd, Mode.rd]
 [] (AV.sv (li (sz (wY (Capture.name x)) left))), Orc.br [Orc.fin []] [Orc.call [Mode.rd, Mode.rd] [] (AV.sv (li (sz (wY (Capture.form x)) (sz (wY (Capture.name x)) left)))),
 Orc.br [Orc.fin []] [Orc.call [Mode.rd, Mode.rd] [] (AV.sv (li (sz (List.length (Capture.each x) + sumBy wP (Capture.each x)) (sz (wY (Capture.form x)) (sz (wY (Capture.name x))
 left))))), Orc.br [Orc.fin []] [Orc.fin []]]]] (finK Try.prog [ResultVar.tmp 4] [] (AV.sv (li (sz (wP x) left)))) = (P_c_szSyntax (Capture.name x) left ∧ (decide (sz (wY
 (Capture.name x)) left < 0) = true → ObsEq [] [] ∧ AV.sv (li (-1 : Int)) = AV.sv (li (sz (wP x) left))) ∧ (decide (sz (wY (Capture.name x)) left < 0) = false → P_c_szSyntax
 (Capture.form x) (sz (wY (Capture.name x)) left) ∧ (decide (sz (wY (Capture.form x)) (sz (wY (Capture.name x)) left) < 0) = true → ObsEq [] [] ∧ AV.sv (li (-1 : Int)) = AV.sv (li
 (sz (wP x) left))) ∧ (decide (sz (wY (Capture.form x)) (sz (wY (Capture.name x)) left) < 0) = false → P_c_szCaptureS (Capture.each x) (sz (wY (Capture.form x)) (sz (wY
 (Capture.name x)) left)) ∧ (decide (sz (List.length (Capture.each x) + sumBy wP (Capture.each x)) (sz (wY (Capture.form x)) (sz (wY (Capture.name x)) left)) < 0) = true → ObsEq []
 [] ∧ AV.sv (li (-1 : Int)) = AV.sv (li (sz (wP x) left))) ∧ (decide (sz (List.length (Capture.each x) + sumBy wP (Capture.each x)) (sz (wY (Capture.form x)) (sz (wY (Capture.name
 x)) left)) < 0) = false → ObsEq [] [] ∧ AV.sv (li (sz (List.length (Capture.each x) + sumBy wP (Capture.each x)) (sz (wY (Capture.form x)) (sz (wY (Capture.name x)) left)))) =
 AV.sv (li (sz (wP x) left)))))) := by kernel_rfl
theorem c_szCapture_s (x : Capture) (left : Int) (h0 : 0 ≤ left) (h : left ≤ 2147483647) (ih : ∀ z ∈ x.each, ∀ (left : Int) (h0 : 0 ≤ left) (h : left ≤ 2147483647), P_c_szCapture z
 left)  : P_c_szCapture x left := by
  refine CallOK.ofRun wide (run_c_szCapture_s x left) Try.call160 Try.func160 rfl rfl rfl ?_
  with_reducible repeat' (first | apply And.intro | exact flatI | exact flatS | exact rowLens | (intro; skip) | apply obsN | apply obsC | apply obA | apply obM | apply obB | apply svA | apply tupA | apply lcA | apply lcS | apply svC | apply liC | apply lbC | apply lsC | apply vIc | apply vBc | apply vSc | apply vLc | apply mapC | apply c_szSyntax | apply c_szCaptureS | apply ih)
  all_goals (try simp only [std] at *)
  all_goals (try (first | with_reducible rfl | omega | assumption | exact rowGet (by first | omega | grind) | exact getC (by first | omega | grind) rfl | exact fillStep (by first | omega | grind) | exact fillInit | grind [wP_eq, sz, wS, snocI, snocS, rowSnoc]))
theorem c_szCapture (x : Capture) : ∀ (left : Int) (h0 : 0 ≤ left) (h : left ≤ 2147483647), P_c_szCapture x left := Capture.ind (P := fun x => ∀ (left : Int) (h0 : 0 ≤ left) (h : left ≤ 2147483647), P_c_szCapture x left) (fun x ih left h0 h => c_szCapture_s x left h0 h ih) x

abbrev P_c_szExpander (x : Expander) (left : Int) : Prop := CallOK Try.prog 50 [] [expanderA x, li left] [] (.sv (li (sz (wX x) left)))
theorem run_c_szExpander (x : Expander) (left : Int) : aexec Try.prog (Option.getD (Func.body Try.f50) Code.skip) (entry [] [expanderA x, li left] 18) [Orc.call [Mode.rd, Mode.rd]
 [] (AV.sv (li (sz (List.length (Expander.bindings x) + sumBy wB (Expander.bindings x)) left))), Orc.br [Orc.fin []] [Orc.call [Mode.rd, Mode.rd] [] (AV.sv (li (sz (List.length
 (Expander.macros x) + sumBy wR (Expander.macros x)) (sz (List.length (Expander.bindings x) + sumBy wB (Expander.bindings x)) left)))), Orc.br [Orc.fin []] [Orc.fin []]]] (finK
 Try.prog [ResultVar.tmp 4] [] (AV.sv (li (sz (wX x) left)))) = (P_c_szBindingS (Expander.bindings x) left ∧ (decide (sz (List.length (Expander.bindings x) + sumBy wB
 (Expander.bindings x)) left < 0) = true → ObsEq [] [] ∧ AV.sv (li (-1 : Int)) = AV.sv (li (sz (wX x) left))) ∧ (decide (sz (List.length (Expander.bindings x) + sumBy wB
 (Expander.bindings x)) left < 0) = false → P_c_szRulesS (Expander.macros x) (sz (List.length (Expander.bindings x) + sumBy wB (Expander.bindings x)) left) ∧ (decide (sz
 (List.length (Expander.macros x) + sumBy wR (Expander.macros x)) (sz (List.length (Expander.bindings x) + sumBy wB (Expander.bindings x)) left) < 0) = true → ObsEq [] [] ∧ AV.sv
 (li (-1 : Int)) = AV.sv (li (sz (wX x) left))) ∧ (decide (sz (List.length (Expander.macros x) + sumBy wR (Expander.macros x)) (sz (List.length (Expander.bindings x) + sumBy wB
 (Expander.bindings x)) left) < 0) = false → ObsEq [] [] ∧ AV.sv (li (sz (List.length (Expander.macros x) + sumBy wR (Expander.macros x)) (sz (List.length (Expander.bindings x) +
 sumBy wB (Expander.bindings x)) left))) = AV.sv (li (sz (wX x) left))))) := by kernel_rfl
theorem c_szExpander (x : Expander) (left : Int) (h0 : 0 ≤ left) (h : left ≤ 2147483647)  : P_c_szExpander x left := by
  refine CallOK.ofRun wide (run_c_szExpander x left) Try.call50 Try.func50 rfl rfl rfl ?_
  with_reducible repeat' (first | apply And.intro | exact flatI | exact flatS | exact rowLens | (intro; skip) | apply obsN | apply obsC | apply obA | apply obM | apply obB | apply svA | apply tupA | apply lcA | apply lcS | apply svC | apply liC | apply lbC | apply lsC | apply vIc | apply vBc | apply vSc | apply vLc | apply mapC | apply c_szBindingS | apply c_szRulesS)
  all_goals (try simp only [std] at *)
  all_goals (try (first | with_reducible rfl | omega | assumption | exact rowGet (by first | omega | grind) | exact getC (by first | omega | grind) rfl | exact fillStep (by first | omega | grind) | exact fillInit | grind [wX_eq, sz, wS, snocI, snocS, rowSnoc]))

abbrev P_c_szModule (x : Module) (left : Int) : Prop := CallOK Try.prog 45 [] [moduleA x, li left] [] (.sv (li (sz (wM x) left)))
theorem run_c_szModule (x : Module) (left : Int) : aexec Try.prog (Option.getD (Func.body Try.f45) Code.skip) (entry [] [moduleA x, li left] 31) [Orc.br [Orc.fin []] [Orc.call
 [Mode.rd, Mode.rd] [] (AV.sv (li (sz (wS (Module.imports x)) (left - (↑(List.length (Array.toList (ByteArray.data (Module.name x)))) : Int))))), Orc.br [Orc.fin []] [Orc.call
 [Mode.rd, Mode.rd] [] (AV.sv (li (sz (wS (Module.exports x)) (sz (wS (Module.imports x)) (left - (↑(List.length (Array.toList (ByteArray.data (Module.name x)))) : Int)))))),
 Orc.br [Orc.fin []] [Orc.call [Mode.rd, Mode.rd] [] (AV.sv (li (sz (List.length (Module.body x) + sumBy wD (Module.body x)) (sz (wS (Module.exports x)) (sz (wS (Module.imports x))
 (left - (↑(List.length (Array.toList (ByteArray.data (Module.name x)))) : Int))))))), Orc.br [Orc.fin []] [Orc.fin []]]]]] (finK Try.prog [ResultVar.tmp 4] [] (AV.sv (li (sz (wM
 x) left)))) = (List.length (Array.toList (ByteArray.data (Module.name x))) ≤ 9223372036854775807 → rng IntKind.i64 (left - (↑(List.length (Array.toList (ByteArray.data
 (Module.name x)))) : Int)) ∧ (decide (left - (↑(List.length (Array.toList (ByteArray.data (Module.name x)))) : Int) < 0) = true → ObsEq [] [] ∧ AV.sv (li (-1 : Int)) = AV.sv (li
 (sz (wM x) left))) ∧ (decide (left - (↑(List.length (Array.toList (ByteArray.data (Module.name x)))) : Int) < 0) = false → P_c_szStringS (Module.imports x) (left - (↑(List.length
 (Array.toList (ByteArray.data (Module.name x)))) : Int)) ∧ (decide (sz (wS (Module.imports x)) (left - (↑(List.length (Array.toList (ByteArray.data (Module.name x)))) : Int)) < 0)
 = true → ObsEq [] [] ∧ AV.sv (li (-1 : Int)) = AV.sv (li (sz (wM x) left))) ∧ (decide (sz (wS (Module.imports x)) (left - (↑(List.length (Array.toList (ByteArray.data (Module.name
 x)))) : Int)) < 0) = false → P_c_szStringS (Module.exports x) (sz (wS (Module.imports x)) (left - (↑(List.length (Array.toList (ByteArray.data (Module.name x)))) : Int))) ∧
 (decide (sz (wS (Module.exports x)) (sz (wS (Module.imports x)) (left - (↑(List.length (Array.toList (ByteArray.data (Module.name x)))) : Int))) < 0) = true → ObsEq [] [] ∧ AV.sv
 (li (-1 : Int)) = AV.sv (li (sz (wM x) left))) ∧ (decide (sz (wS (Module.exports x)) (sz (wS (Module.imports x)) (left - (↑(List.length (Array.toList (ByteArray.data (Module.name
 x)))) : Int))) < 0) = false → P_c_szDatumS (Module.body x) (sz (wS (Module.exports x)) (sz (wS (Module.imports x)) (left - (↑(List.length (Array.toList (ByteArray.data
 (Module.name x)))) : Int)))) ∧ (decide (sz (List.length (Module.body x) + sumBy wD (Module.body x)) (sz (wS (Module.exports x)) (sz (wS (Module.imports x)) (left - (↑(List.length
 (Array.toList (ByteArray.data (Module.name x)))) : Int)))) < 0) = true → ObsEq [] [] ∧ AV.sv (li (-1 : Int)) = AV.sv (li (sz (wM x) left))) ∧ (decide (sz (List.length (Module.body
 x) + sumBy wD (Module.body x)) (sz (wS (Module.exports x)) (sz (wS (Module.imports x)) (left - (↑(List.length (Array.toList (ByteArray.data (Module.name x)))) : Int)))) < 0) =
 false → ObsEq [] [] ∧ AV.sv (li (sz (List.length (Module.body x) + sumBy wD (Module.body x)) (sz (wS (Module.exports x)) (sz (wS (Module.imports x)) (left - (↑(List.length
 (Array.toList (ByteArray.data (Module.name x)))) : Int)))))) = AV.sv (li (sz (wM x) left))))))) := by kernel_rfl
theorem c_szModule (x : Module) (left : Int) (h0 : 0 ≤ left) (h : left ≤ 2147483647)  : P_c_szModule x left := by
  refine CallOK.ofRun wide (run_c_szModule x left) Try.call45 Try.func45 rfl rfl rfl ?_
  with_reducible repeat' (first | apply And.intro | exact flatI | exact flatS | exact rowLens | (intro; skip) | apply obsN | apply obsC | apply obA | apply obM | apply obB | apply svA | apply tupA | apply lcA | apply lcS | apply svC | apply liC | apply lbC | apply lsC | apply vIc | apply vBc | apply vSc | apply vLc | apply mapC | apply c_szStringS | apply c_szDatumS | apply c_szDatum)
  all_goals (try simp only [std] at *)
  all_goals (try (first | with_reducible rfl | omega | assumption | exact rowGet (by first | omega | grind) | exact getC (by first | omega | grind) rfl | exact fillStep (by first | omega | grind) | exact fillInit | grind [wM_eq, sz, wS, snocI, snocS, rowSnoc]))

abbrev P_c_szExport (x : Export) (left : Int) : Prop := CallOK Try.prog 255 [] [exportA x, li left] [] (.sv (li (sz (wE x) left)))
theorem run_c_szExport (x : Export) (left : Int) : aexec Try.prog (Option.getD (Func.body Try.f255) Code.skip) (entry [] [exportA x, li left] 20) [Orc.br [Orc.fin []] [Orc.br
 [Orc.fin []] [Orc.fin []]]] (finK Try.prog [ResultVar.tmp 4] [] (AV.sv (li (sz (wE x) left)))) = (List.length (Array.toList (ByteArray.data (Export.modul x))) ≤
 9223372036854775807 → rng IntKind.i64 (left - (↑(List.length (Array.toList (ByteArray.data (Export.modul x)))) : Int)) ∧ (decide (left - (↑(List.length (Array.toList
 (ByteArray.data (Export.modul x)))) : Int) < 0) = true → ObsEq [] [] ∧ AV.sv (li (-1 : Int)) = AV.sv (li (sz (wE x) left))) ∧ (decide (left - (↑(List.length (Array.toList
 (ByteArray.data (Export.modul x)))) : Int) < 0) = false → List.length (Array.toList (ByteArray.data (Export.text x))) ≤ 9223372036854775807 → rng IntKind.i64 (left -
 (↑(List.length (Array.toList (ByteArray.data (Export.modul x)))) : Int) - (↑(List.length (Array.toList (ByteArray.data (Export.text x)))) : Int)) ∧ (decide (left - (↑(List.length
 (Array.toList (ByteArray.data (Export.modul x)))) : Int) - (↑(List.length (Array.toList (ByteArray.data (Export.text x)))) : Int) < 0) = true → ObsEq [] [] ∧ AV.sv (li (-1 : Int))
 = AV.sv (li (sz (wE x) left))) ∧ (decide (left - (↑(List.length (Array.toList (ByteArray.data (Export.modul x)))) : Int) - (↑(List.length (Array.toList (ByteArray.data
 (Export.text x)))) : Int) < 0) = false → ObsEq [] [] ∧ AV.sv (li (left - (↑(List.length (Array.toList (ByteArray.data (Export.modul x)))) : Int) - (↑(List.length (Array.toList
 (ByteArray.data (Export.text x)))) : Int))) = AV.sv (li (sz (wE x) left))))) := by kernel_rfl
theorem c_szExport (x : Export) (left : Int) (h0 : 0 ≤ left) (h : left ≤ 2147483647)  : P_c_szExport x left := by
  refine CallOK.ofRun wide (run_c_szExport x left) Try.call255 Try.func255 rfl rfl rfl ?_
  with_reducible repeat' (first | apply And.intro | exact flatI | exact flatS | exact rowLens | (intro; skip) | apply obsN | apply obsC | apply obA | apply obM | apply obB | apply svA | apply tupA | apply lcA | apply lcS | apply svC | apply liC | apply lbC | apply lsC | apply vIc | apply vBc | apply vSc | apply vLc | apply mapC)
  all_goals (try simp only [std] at *)
  all_goals (try (first | with_reducible rfl | omega | assumption | exact rowGet (by first | omega | grind) | exact getC (by first | omega | grind) rfl | exact fillStep (by first | omega | grind) | exact fillInit | grind [wE_eq, sz, wS, snocI, snocS, rowSnoc]))

abbrev P_c_szExportS (L : List Export) (left : Int) : Prop := CallOK Try.prog 185 [] [ll (L.map exportC), li left] [] (.sv (li (sz (L.length + sumBy wE L) left)))
def Tc_szExportSLa (L : List Export) (left : Int) (x0 : SV) (x1 : SV) : St := St.mk (regsOf 27 [(0, AV.sv (ll (List.map exportC L))), (1, AV.sv x1), (5, AV.sv x0)]) [] 0 
def Lc_szExportSLa (L : List Export) (left : Int) (k : Nat × Int) : St := Tc_szExportSLa L left (li (↑(Prod.fst k) : Int)) (li (Prod.snd k)) 
def Ic_szExportSLa (L : List Export) (left : Int) : Nat → St → Prop := Head (Lc_szExportSLa L left) (fun k => Prod.fst k ≤ List.length L ∧ List.length L ≤ 9223372036854775807 ∧ 0 ≤
 Prod.snd k ∧ Prod.snd k ≤ left ∧ sz (sumBy wE (List.drop (Prod.fst k) L)) (Prod.snd k) = sz (List.length L + sumBy wE L) left) fun k => List.length L - Prod.fst k 
def W0c_szExportSLa (L : List Export) (left : Int) (x0 : SV) : St := St.mk (regsOf 27 [(1, AV.sv x0)]) [] 0 
def W1c_szExportSLa (L : List Export) (left : Int) (x0 : SV) : St := St.mk (regsOf 27 [(4, AV.sv x0)]) [] 0 
def Yc_szExportSLa (L : List Export) (left : Int) : List (Prop × AEx × St) := [(0 ≤ sz (List.length L + sumBy wE L) left, AEx.exit 0, W0c_szExportSLa L left (li (sz (List.length L
 + sumBy wE L) left))), (sz (List.length L + sumBy wE L) left = (-1 : Int), AEx.ret, W1c_szExportSLa L left (li (-1 : Int)))]
theorem Hc_szExportSLa {L : List Export} {left : Int} {k : Nat × Int} {m : Nat} (h : (fun k => Prod.fst k ≤ List.length L ∧ List.length L ≤ 9223372036854775807 ∧ 0 ≤ Prod.snd k ∧
 Prod.snd k ≤ left ∧ sz (sumBy wE (List.drop (Prod.fst k) L)) (Prod.snd k) = sz (List.length L + sumBy wE L) left) k) (hm : (fun k => List.length L - Prod.fst k) k = m) :
 Ic_szExportSLa L left m (Lc_szExportSLa L left k) := hm ▸ Head.mk h
theorem Ec_szExportSLa {L : List Export} {left : Int} {k : Nat × Int} {x0 : SV} {x1 : SV} (h0 : x0 = (li (↑(Prod.fst k) : Int))) (h1 : x1 = (li (Prod.snd k))) : Tc_szExportSLa L
 left x0 x1 = Lc_szExportSLa L left k := by (rw [h0, h1]; rfl)
theorem EW0c_szExportSLa {L : List Export} {left : Int} {x0 y0 : SV} (h0 : x0 = y0) : W0c_szExportSLa L left x0 = W0c_szExportSLa L left y0 := by rw [h0]
theorem EW1c_szExportSLa {L : List Export} {left : Int} {x0 y0 : SV} (h0 : x0 = y0) : W1c_szExportSLa L left x0 = W1c_szExportSLa L left y0 := by rw [h0]
theorem run_c_szExportSLa (L : List Export) (left : Int) (k : Nat × Int) : aexec Try.prog (loopAt Try.f185 0) (Lc_szExportSLa L left k) [Orc.br [Orc.cells (exportF (List.getD L
 (Prod.fst k) default)), Orc.call [Mode.rd, Mode.rd] [] (AV.sv (li (sz (wE (List.getD L (Prod.fst k) default)) (Prod.snd k)))), Orc.br [Orc.ghost (Ghost.sel [] [4]), Orc.out 1]
 [Orc.ghost (Ghost.sel [] [0, 1, 5]), Orc.goto (List.length L - (Prod.fst k + 1)) (Lc_szExportSLa L left (Prod.fst k + 1, sz (wE (List.getD L (Prod.fst k) default)) (Prod.snd
 k)))]] [Orc.ghost (Ghost.sel [] [1]), Orc.out 0]] (loopK (Ic_szExportSLa L left) (Yc_szExportSLa L left) (List.length L - Prod.fst k)) = (List.length (List.map exportC L) ≤
 9223372036854775807 → (decide ((↑(Prod.fst k) : Int) < (↑(List.length (List.map exportC L)) : Int)) = true → (0 ≤ (↑(Prod.fst k) : Int) ∧ (List.map exportC L)[Int.toNat
 (↑(Prod.fst k) : Int)]? = some (exportF (List.getD L (Prod.fst k) default))) ∧ P_c_szExport (List.getD L (Prod.fst k) default) (Prod.snd k) ∧ (decide (sz (wE (List.getD L
 (Prod.fst k) default)) (Prod.snd k) < 0) = true → sz (List.length L + sumBy wE L) left = (-1 : Int) ∧ W1c_szExportSLa L left (li (-1 : Int)) = W1c_szExportSLa L left (li (-1 :
 Int))) ∧ (decide (sz (wE (List.getD L (Prod.fst k) default)) (Prod.snd k) < 0) = false → rng IntKind.i64 ((↑(Prod.fst k) : Int) + 1) ∧ List.length L - (Prod.fst k + 1) <
 List.length L - Prod.fst k ∧ Tc_szExportSLa L left (li ((↑(Prod.fst k) : Int) + 1)) (li (sz (wE (List.getD L (Prod.fst k) default)) (Prod.snd k))) = Lc_szExportSLa L left
 (Prod.fst k + 1, sz (wE (List.getD L (Prod.fst k) default)) (Prod.snd k)) ∧ Ic_szExportSLa L left (List.length L - (Prod.fst k + 1)) (Lc_szExportSLa L left (Prod.fst k + 1, sz (wE
 (List.getD L (Prod.fst k) default)) (Prod.snd k))))) ∧ (decide ((↑(Prod.fst k) : Int) < (↑(List.length (List.map exportC L)) : Int)) = false → 0 ≤ sz (List.length L + sumBy wE L)
 left ∧ W0c_szExportSLa L left (li (Prod.snd k)) = W0c_szExportSLa L left (li (sz (List.length L + sumBy wE L) left)))) := by kernel_rfl
theorem Sc_szExportSLa (L : List Export) (left : Int) (h0 : 0 ≤ left) (h : left ≤ 2147483647)  : LoopSem Try.prog (loopAt Try.f185 0) (Ic_szExportSLa L left) (Yc_szExportSLa L
 left) := by
  refine LoopSem.ofHead wide fun k h => ⟨_, _, run_c_szExportSLa L left k, ?_⟩
  obtain ⟨i, n⟩ := k
  simp only at *
  with_reducible repeat' (first | apply And.intro | exact flatI | exact flatS | exact rowLens | (intro; skip) | apply obsN | apply obsC | apply obA | apply obM | apply obB | apply svA | apply tupA | apply lcA | apply lcS | apply svC | apply liC | apply lbC | apply lsC | apply vIc | apply vBc | apply vSc | apply vLc | apply mapC | apply Hc_szExportSLa | apply Ec_szExportSLa | apply EW0c_szExportSLa | apply EW1c_szExportSLa | apply c_szExport)
  all_goals (try simp only [std] at *)
  all_goals (try (first | with_reducible rfl | omega | assumption | exact rowGet (by first | omega | grind) | exact getC (by first | omega | grind) rfl | exact fillStep (by first | omega | grind) | exact fillInit | grind [drop_get, sumBy, sz, getD_mem', snocI, snocS, rowSnoc]))
theorem run_c_szExportS (L : List Export) (left : Int) : aexec Try.prog (Option.getD (Func.body Try.f185) Code.skip) (entry [] [ll (List.map exportC L), li left] 27) [Orc.br
 [Orc.fin []] [Orc.ghost (Ghost.sel [] [0, 1, 5]), Orc.loop (List.length L - 0) (Lc_szExportSLa L left (0, left - (↑(List.length L) : Int))) (Ic_szExportSLa L left) [(0 ≤ sz
 (List.length L + sumBy wE L) left, AEx.exit 0, W0c_szExportSLa L left (li (sz (List.length L + sumBy wE L) left)), [Orc.fin []]), (sz (List.length L + sumBy wE L) left = (-1 :
 Int), AEx.ret, W1c_szExportSLa L left (li (-1 : Int)), [Orc.fin []])]]] (finK Try.prog [ResultVar.tmp 4] [] (AV.sv (li (sz (List.length L + sumBy wE L) left)))) = (List.length
 (List.map exportC L) ≤ 9223372036854775807 → rng IntKind.i64 (left - (↑(List.length (List.map exportC L)) : Int)) ∧ (decide (left - (↑(List.length (List.map exportC L)) : Int) <
 0) = true → ObsEq [] [] ∧ AV.sv (li (-1 : Int)) = AV.sv (li (sz (List.length L + sumBy wE L) left))) ∧ (decide (left - (↑(List.length (List.map exportC L)) : Int) < 0) = false →
 Tc_szExportSLa L left (li 0) (li (left - (↑(List.length (List.map exportC L)) : Int))) = Lc_szExportSLa L left (0, left - (↑(List.length L) : Int)) ∧ Ic_szExportSLa L left
 (List.length L - 0) (Lc_szExportSLa L left (0, left - (↑(List.length L) : Int))) ∧ LoopSem Try.prog (loopAt Try.f185 0) (Ic_szExportSLa L left) (Yc_szExportSLa L left) ∧
 (Int.NonNeg (sz (List.length L + sumBy wE L) left - 0) → ObsEq [] [] ∧ AV.sv (li (sz (List.length L + sumBy wE L) left)) = AV.sv (li (sz (List.length L + sumBy wE L) left))) ∧ (sz
 (List.length L + sumBy wE L) left = (-1 : Int) → ObsEq [] [] ∧ AV.sv (li (-1 : Int)) = AV.sv (li (sz (List.length L + sumBy wE L) left))) ∧ True)) := by kernel_rfl
theorem c_szExportS (L : List Export) (left : Int) (h0 : 0 ≤ left) (h : left ≤ 2147483647)  : P_c_szExportS L left := by
  refine CallOK.ofRun wide (run_c_szExportS L left) Try.call185 Try.func185 rfl rfl rfl ?_
  with_reducible repeat' (first | apply And.intro | exact flatI | exact flatS | exact rowLens | (intro; skip) | apply obsN | apply obsC | apply obA | apply obM | apply obB | apply svA | apply tupA | apply lcA | apply lcS | apply svC | apply liC | apply lbC | apply lsC | apply vIc | apply vBc | apply vSc | apply vLc | apply mapC | apply Hc_szExportSLa | apply Ec_szExportSLa | apply Sc_szExportSLa | apply EW0c_szExportSLa | apply EW1c_szExportSLa | apply c_szExport)
  all_goals (try simp only [std] at *)
  all_goals (try (first | with_reducible rfl | omega | assumption | exact rowGet (by first | omega | grind) | exact getC (by first | omega | grind) rfl | exact fillStep (by first | omega | grind) | exact fillInit | grind [sz, snocI, snocS, rowSnoc]))

abbrev P_c_szUnit (x : Unit) (left : Int) : Prop := CallOK Try.prog 81 [] [unitA x, li left] [] (.sv (li (sz (wU x) left)))
theorem run_c_szUnit (x : Unit) (left : Int) : aexec Try.prog (Option.getD (Func.body Try.f81) Code.skip) (entry [] [unitA x, li left] 25) [Orc.br [Orc.fin []] [Orc.call [Mode.rd,
 Mode.rd] [] (AV.sv (li (sz (List.length (Unit.globals x)) (left - (↑(List.length (Array.toList (ByteArray.data (Unit.name x)))) : Int))))), Orc.br [Orc.fin []] [Orc.call [Mode.rd,
 Mode.rd] [] (AV.sv (li (sz (wC (Unit.body x)) (sz (List.length (Unit.globals x)) (left - (↑(List.length (Array.toList (ByteArray.data (Unit.name x)))) : Int)))))), Orc.br [Orc.fin
 []] [Orc.fin []]]]] (finK Try.prog [ResultVar.tmp 4] [] (AV.sv (li (sz (wU x) left)))) = (List.length (Array.toList (ByteArray.data (Unit.name x))) ≤ 9223372036854775807 → rng
 IntKind.i64 (left - (↑(List.length (Array.toList (ByteArray.data (Unit.name x)))) : Int)) ∧ (decide (left - (↑(List.length (Array.toList (ByteArray.data (Unit.name x)))) : Int) <
 0) = true → ObsEq [] [] ∧ AV.sv (li (-1 : Int)) = AV.sv (li (sz (wU x) left))) ∧ (decide (left - (↑(List.length (Array.toList (ByteArray.data (Unit.name x)))) : Int) < 0) = false
 → P_c_szIntS (Unit.globals x) (left - (↑(List.length (Array.toList (ByteArray.data (Unit.name x)))) : Int)) ∧ (decide (sz (List.length (Unit.globals x)) (left - (↑(List.length
 (Array.toList (ByteArray.data (Unit.name x)))) : Int)) < 0) = true → ObsEq [] [] ∧ AV.sv (li (-1 : Int)) = AV.sv (li (sz (wU x) left))) ∧ (decide (sz (List.length (Unit.globals
 x)) (left - (↑(List.length (Array.toList (ByteArray.data (Unit.name x)))) : Int)) < 0) = false → P_c_szCore (Unit.body x) (sz (List.length (Unit.globals x)) (left - (↑(List.length
 (Array.toList (ByteArray.data (Unit.name x)))) : Int))) ∧ (decide (sz (wC (Unit.body x)) (sz (List.length (Unit.globals x)) (left - (↑(List.length (Array.toList (ByteArray.data
 (Unit.name x)))) : Int))) < 0) = true → ObsEq [] [] ∧ AV.sv (li (-1 : Int)) = AV.sv (li (sz (wU x) left))) ∧ (decide (sz (wC (Unit.body x)) (sz (List.length (Unit.globals x))
 (left - (↑(List.length (Array.toList (ByteArray.data (Unit.name x)))) : Int))) < 0) = false → ObsEq [] [] ∧ AV.sv (li (sz (wC (Unit.body x)) (sz (List.length (Unit.globals x))
 (left - (↑(List.length (Array.toList (ByteArray.data (Unit.name x)))) : Int))))) = AV.sv (li (sz (wU x) left)))))) := by kernel_rfl
theorem c_szUnit (x : Unit) (left : Int) (h0 : 0 ≤ left) (h : left ≤ 2147483647)  : P_c_szUnit x left := by
  refine CallOK.ofRun wide (run_c_szUnit x left) Try.call81 Try.func81 rfl rfl rfl ?_
  with_reducible repeat' (first | apply And.intro | exact flatI | exact flatS | exact rowLens | (intro; skip) | apply obsN | apply obsC | apply obA | apply obM | apply obB | apply svA | apply tupA | apply lcA | apply lcS | apply svC | apply liC | apply lbC | apply lsC | apply vIc | apply vBc | apply vSc | apply vLc | apply mapC | apply c_szIntS | apply c_szCore)
  all_goals (try simp only [std] at *)
  all_goals (try (first | with_reducible rfl | omega | assumption | exact rowGet (by first | omega | grind) | exact getC (by first | omega | grind) rfl | exact fillStep (by first | omega | grind) | exact fillInit | grind [wU_eq, sz, wS, snocI, snocS, rowSnoc]))

abbrev P_c_szUnitS (L : List Unit) (left : Int) : Prop := CallOK Try.prog 39 [] [ll (L.map unitC), li left] [] (.sv (li (sz (L.length + sumBy wU L) left)))
def Tc_szUnitSLa (L : List Unit) (left : Int) (x0 : SV) (x1 : SV) : St := St.mk (regsOf 27 [(0, AV.sv (ll (List.map unitC L))), (1, AV.sv x1), (5, AV.sv x0)]) [] 0 
def Lc_szUnitSLa (L : List Unit) (left : Int) (k : Nat × Int) : St := Tc_szUnitSLa L left (li (↑(Prod.fst k) : Int)) (li (Prod.snd k)) 
def Ic_szUnitSLa (L : List Unit) (left : Int) : Nat → St → Prop := Head (Lc_szUnitSLa L left) (fun k => Prod.fst k ≤ List.length L ∧ List.length L ≤ 9223372036854775807 ∧ 0 ≤
 Prod.snd k ∧ Prod.snd k ≤ left ∧ sz (sumBy wU (List.drop (Prod.fst k) L)) (Prod.snd k) = sz (List.length L + sumBy wU L) left) fun k => List.length L - Prod.fst k 
def W0c_szUnitSLa (L : List Unit) (left : Int) (x0 : SV) : St := St.mk (regsOf 27 [(1, AV.sv x0)]) [] 0 
def W1c_szUnitSLa (L : List Unit) (left : Int) (x0 : SV) : St := St.mk (regsOf 27 [(4, AV.sv x0)]) [] 0 
def Yc_szUnitSLa (L : List Unit) (left : Int) : List (Prop × AEx × St) := [(0 ≤ sz (List.length L + sumBy wU L) left, AEx.exit 0, W0c_szUnitSLa L left (li (sz (List.length L +
 sumBy wU L) left))), (sz (List.length L + sumBy wU L) left = (-1 : Int), AEx.ret, W1c_szUnitSLa L left (li (-1 : Int)))]
theorem Hc_szUnitSLa {L : List Unit} {left : Int} {k : Nat × Int} {m : Nat} (h : (fun k => Prod.fst k ≤ List.length L ∧ List.length L ≤ 9223372036854775807 ∧ 0 ≤ Prod.snd k ∧
 Prod.snd k ≤ left ∧ sz (sumBy wU (List.drop (Prod.fst k) L)) (Prod.snd k) = sz (List.length L + sumBy wU L) left) k) (hm : (fun k => List.length L - Prod.fst k) k = m) :
 Ic_szUnitSLa L left m (Lc_szUnitSLa L left k) := hm ▸ Head.mk h
theorem Ec_szUnitSLa {L : List Unit} {left : Int} {k : Nat × Int} {x0 : SV} {x1 : SV} (h0 : x0 = (li (↑(Prod.fst k) : Int))) (h1 : x1 = (li (Prod.snd k))) : Tc_szUnitSLa L left x0
 x1 = Lc_szUnitSLa L left k := by (rw [h0, h1]; rfl)
theorem EW0c_szUnitSLa {L : List Unit} {left : Int} {x0 y0 : SV} (h0 : x0 = y0) : W0c_szUnitSLa L left x0 = W0c_szUnitSLa L left y0 := by rw [h0]
theorem EW1c_szUnitSLa {L : List Unit} {left : Int} {x0 y0 : SV} (h0 : x0 = y0) : W1c_szUnitSLa L left x0 = W1c_szUnitSLa L left y0 := by rw [h0]
theorem run_c_szUnitSLa (L : List Unit) (left : Int) (k : Nat × Int) : aexec Try.prog (loopAt Try.f39 0) (Lc_szUnitSLa L left k) [Orc.br [Orc.cells (unitF (List.getD L (Prod.fst k)
 default)), Orc.call [Mode.rd, Mode.rd] [] (AV.sv (li (sz (wU (List.getD L (Prod.fst k) default)) (Prod.snd k)))), Orc.br [Orc.ghost (Ghost.sel [] [4]), Orc.out 1] [Orc.ghost
 (Ghost.sel [] [0, 1, 5]), Orc.goto (List.length L - (Prod.fst k + 1)) (Lc_szUnitSLa L left (Prod.fst k + 1, sz (wU (List.getD L (Prod.fst k) default)) (Prod.snd k)))]] [Orc.ghost
 (Ghost.sel [] [1]), Orc.out 0]] (loopK (Ic_szUnitSLa L left) (Yc_szUnitSLa L left) (List.length L - Prod.fst k)) = (List.length (List.map unitC L) ≤ 9223372036854775807 → (decide
 ((↑(Prod.fst k) : Int) < (↑(List.length (List.map unitC L)) : Int)) = true → (0 ≤ (↑(Prod.fst k) : Int) ∧ (List.map unitC L)[Int.toNat (↑(Prod.fst k) : Int)]? = some (unitF
 (List.getD L (Prod.fst k) default))) ∧ P_c_szUnit (List.getD L (Prod.fst k) default) (Prod.snd k) ∧ (decide (sz (wU (List.getD L (Prod.fst k) default)) (Prod.snd k) < 0) = true →
 sz (List.length L + sumBy wU L) left = (-1 : Int) ∧ W1c_szUnitSLa L left (li (-1 : Int)) = W1c_szUnitSLa L left (li (-1 : Int))) ∧ (decide (sz (wU (List.getD L (Prod.fst k)
 default)) (Prod.snd k) < 0) = false → rng IntKind.i64 ((↑(Prod.fst k) : Int) + 1) ∧ List.length L - (Prod.fst k + 1) < List.length L - Prod.fst k ∧ Tc_szUnitSLa L left (li
 ((↑(Prod.fst k) : Int) + 1)) (li (sz (wU (List.getD L (Prod.fst k) default)) (Prod.snd k))) = Lc_szUnitSLa L left (Prod.fst k + 1, sz (wU (List.getD L (Prod.fst k) default))
 (Prod.snd k)) ∧ Ic_szUnitSLa L left (List.length L - (Prod.fst k + 1)) (Lc_szUnitSLa L left (Prod.fst k + 1, sz (wU (List.getD L (Prod.fst k) default)) (Prod.snd k))))) ∧ (decide
 ((↑(Prod.fst k) : Int) < (↑(List.length (List.map unitC L)) : Int)) = false → 0 ≤ sz (List.length L + sumBy wU L) left ∧ W0c_szUnitSLa L left (li (Prod.snd k)) = W0c_szUnitSLa L
 left (li (sz (List.length L + sumBy wU L) left)))) := by kernel_rfl
theorem Sc_szUnitSLa (L : List Unit) (left : Int) (h0 : 0 ≤ left) (h : left ≤ 2147483647)  : LoopSem Try.prog (loopAt Try.f39 0) (Ic_szUnitSLa L left) (Yc_szUnitSLa L left) := by
  refine LoopSem.ofHead wide fun k h => ⟨_, _, run_c_szUnitSLa L left k, ?_⟩
  obtain ⟨i, n⟩ := k
  simp only at *
  with_reducible repeat' (first | apply And.intro | exact flatI | exact flatS | exact rowLens | (intro; skip) | apply obsN | apply obsC | apply obA | apply obM | apply obB | apply svA | apply tupA | apply lcA | apply lcS | apply svC | apply liC | apply lbC | apply lsC | apply vIc | apply vBc | apply vSc | apply vLc | apply mapC | apply Hc_szUnitSLa | apply Ec_szUnitSLa | apply EW0c_szUnitSLa | apply EW1c_szUnitSLa | apply c_szUnit)
  all_goals (try simp only [std] at *)
  all_goals (try (first | with_reducible rfl | omega | assumption | exact rowGet (by first | omega | grind) | exact getC (by first | omega | grind) rfl | exact fillStep (by first | omega | grind) | exact fillInit | grind [drop_get, sumBy, sz, getD_mem', snocI, snocS, rowSnoc]))
theorem run_c_szUnitS (L : List Unit) (left : Int) : aexec Try.prog (Option.getD (Func.body Try.f39) Code.skip) (entry [] [ll (List.map unitC L), li left] 27) [Orc.br [Orc.fin []]
 [Orc.ghost (Ghost.sel [] [0, 1, 5]), Orc.loop (List.length L - 0) (Lc_szUnitSLa L left (0, left - (↑(List.length L) : Int))) (Ic_szUnitSLa L left) [(0 ≤ sz (List.length L + sumBy
 wU L) left, AEx.exit 0, W0c_szUnitSLa L left (li (sz (List.length L + sumBy wU L) left)), [Orc.fin []]), (sz (List.length L + sumBy wU L) left = (-1 : Int), AEx.ret, W1c_szUnitSLa
 L left (li (-1 : Int)), [Orc.fin []])]]] (finK Try.prog [ResultVar.tmp 4] [] (AV.sv (li (sz (List.length L + sumBy wU L) left)))) = (List.length (List.map unitC L) ≤
 9223372036854775807 → rng IntKind.i64 (left - (↑(List.length (List.map unitC L)) : Int)) ∧ (decide (left - (↑(List.length (List.map unitC L)) : Int) < 0) = true → ObsEq [] [] ∧
 AV.sv (li (-1 : Int)) = AV.sv (li (sz (List.length L + sumBy wU L) left))) ∧ (decide (left - (↑(List.length (List.map unitC L)) : Int) < 0) = false → Tc_szUnitSLa L left (li 0)
 (li (left - (↑(List.length (List.map unitC L)) : Int))) = Lc_szUnitSLa L left (0, left - (↑(List.length L) : Int)) ∧ Ic_szUnitSLa L left (List.length L - 0) (Lc_szUnitSLa L left
 (0, left - (↑(List.length L) : Int))) ∧ LoopSem Try.prog (loopAt Try.f39 0) (Ic_szUnitSLa L left) (Yc_szUnitSLa L left) ∧ (Int.NonNeg (sz (List.length L + sumBy wU L) left - 0) →
 ObsEq [] [] ∧ AV.sv (li (sz (List.length L + sumBy wU L) left)) = AV.sv (li (sz (List.length L + sumBy wU L) left))) ∧ (sz (List.length L + sumBy wU L) left = (-1 : Int) → ObsEq
 [] [] ∧ AV.sv (li (-1 : Int)) = AV.sv (li (sz (List.length L + sumBy wU L) left))) ∧ True)) := by kernel_rfl
theorem c_szUnitS (L : List Unit) (left : Int) (h0 : 0 ≤ left) (h : left ≤ 2147483647)  : P_c_szUnitS L left := by
  refine CallOK.ofRun wide (run_c_szUnitS L left) Try.call39 Try.func39 rfl rfl rfl ?_
  with_reducible repeat' (first | apply And.intro | exact flatI | exact flatS | exact rowLens | (intro; skip) | apply obsN | apply obsC | apply obA | apply obM | apply obB | apply svA | apply tupA | apply lcA | apply lcS | apply svC | apply liC | apply lbC | apply lsC | apply vIc | apply vBc | apply vSc | apply vLc | apply mapC | apply Hc_szUnitSLa | apply Ec_szUnitSLa | apply Sc_szUnitSLa | apply EW0c_szUnitSLa | apply EW1c_szUnitSLa | apply c_szUnit)
  all_goals (try simp only [std] at *)
  all_goals (try (first | with_reducible rfl | omega | assumption | exact rowGet (by first | omega | grind) | exact getC (by first | omega | grind) rfl | exact fillStep (by first | omega | grind) | exact fillInit | grind [sz, snocI, snocS, rowSnoc]))

abbrev P_c_szWorld (x : World) (left : Int) : Prop := CallOK Try.prog 75 [] [worldA x, li left] [] (.sv (li (sz (wW x) left)))
theorem run_c_szWorld (x : World) (left : Int) : aexec Try.prog (Option.getD (Func.body Try.f75) Code.skip) (entry [] [worldA x, li left] 24) [Orc.call [Mode.rd, Mode.rd] [] (AV.sv
 (li (sz (wX (World.expander x)) left))), Orc.br [Orc.fin []] [Orc.call [Mode.rd, Mode.rd] [] (AV.sv (li (sz (List.length (World.units x) + sumBy wU (World.units x)) (sz (wX
 (World.expander x)) left)))), Orc.br [Orc.fin []] [Orc.call [Mode.rd, Mode.rd] [] (AV.sv (li (sz (List.length (World.exports x) + sumBy wE (World.exports x)) (sz (List.length
 (World.units x) + sumBy wU (World.units x)) (sz (wX (World.expander x)) left))))), Orc.br [Orc.fin []] [Orc.fin []]]]] (finK Try.prog [ResultVar.tmp 4] [] (AV.sv (li (sz (wW x)
 left)))) = (P_c_szExpander (World.expander x) left ∧ (decide (sz (wX (World.expander x)) left < 0) = true → ObsEq [] [] ∧ AV.sv (li (-1 : Int)) = AV.sv (li (sz (wW x) left))) ∧
 (decide (sz (wX (World.expander x)) left < 0) = false → P_c_szUnitS (World.units x) (sz (wX (World.expander x)) left) ∧ (decide (sz (List.length (World.units x) + sumBy wU
 (World.units x)) (sz (wX (World.expander x)) left) < 0) = true → ObsEq [] [] ∧ AV.sv (li (-1 : Int)) = AV.sv (li (sz (wW x) left))) ∧ (decide (sz (List.length (World.units x) +
 sumBy wU (World.units x)) (sz (wX (World.expander x)) left) < 0) = false → P_c_szExportS (World.exports x) (sz (List.length (World.units x) + sumBy wU (World.units x)) (sz (wX
 (World.expander x)) left)) ∧ (decide (sz (List.length (World.exports x) + sumBy wE (World.exports x)) (sz (List.length (World.units x) + sumBy wU (World.units x)) (sz (wX
 (World.expander x)) left)) < 0) = true → ObsEq [] [] ∧ AV.sv (li (-1 : Int)) = AV.sv (li (sz (wW x) left))) ∧ (decide (sz (List.length (World.exports x) + sumBy wE (World.exports
 x)) (sz (List.length (World.units x) + sumBy wU (World.units x)) (sz (wX (World.expander x)) left)) < 0) = false → ObsEq [] [] ∧ AV.sv (li (sz (List.length (World.exports x) +
 sumBy wE (World.exports x)) (sz (List.length (World.units x) + sumBy wU (World.units x)) (sz (wX (World.expander x)) left)))) = AV.sv (li (sz (wW x) left)))))) := by kernel_rfl
theorem c_szWorld (x : World) (left : Int) (h0 : 0 ≤ left) (h : left ≤ 2147483647)  : P_c_szWorld x left := by
  refine CallOK.ofRun wide (run_c_szWorld x left) Try.call75 Try.func75 rfl rfl rfl ?_
  with_reducible repeat' (first | apply And.intro | exact flatI | exact flatS | exact rowLens | (intro; skip) | apply obsN | apply obsC | apply obA | apply obM | apply obB | apply svA | apply tupA | apply lcA | apply lcS | apply svC | apply liC | apply lbC | apply lsC | apply vIc | apply vBc | apply vSc | apply vLc | apply mapC | apply c_szExpander | apply c_szUnitS | apply c_szExportS)
  all_goals (try simp only [std] at *)
  all_goals (try (first | with_reducible rfl | omega | assumption | exact rowGet (by first | omega | grind) | exact getC (by first | omega | grind) rfl | exact fillStep (by first | omega | grind) | exact fillInit | grind [wW_eq, sz, wS, snocI, snocS, rowSnoc]))

end Go.Proofs.Ytamcedjjlokfhaa
