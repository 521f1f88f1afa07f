/- The law FnExactRenumberCore holds: RenumberCore answers as the reference's does. No condition. -/
import Derived.Test.YtehpjofddjmbpaaRn3
section
namespace Go.Proofs.Ytehpjofddjmbpaa
open Go Go.Proofs.Ytehpjofddjmbpaa.Ab
set_option linter.unusedVariables false
set_option linter.unusedSimpArgs false
set_option maxHeartbeats 4000000
abbrev P_c_szIntS (L : List Int) (left : Int) : Prop := CallOK Try.prog 149 [] [ll (L.map intC), li left] [] (.sv (li (sz L.length left)))
theorem run_c_szIntS (L : List Int) (left : Int) : aexec Try.prog (Option.getD (Func.body Try.f149) Code.skip) (entry [] [ll (List.map intC L), li left] 12) [Orc.br [Orc.fin []]
 [Orc.fin []]] (finK Try.prog [ResultVar.tmp 4] [] (AV.sv (li (sz (List.length L) left)))) = (List.length (List.map intC L) ≤ 9223372036854775807 → rng IntKind.i64 (left -
 (↑(List.length (List.map intC L)) : Int)) ∧ (decide (left - (↑(List.length (List.map intC L)) : Int) < 0) = true → ObsEq [] [] ∧ AV.sv (li (-1 : Int)) = AV.sv (li (sz (List.length
 L) left))) ∧ (decide (left - (↑(List.length (List.map intC L)) : Int) < 0) = false → ObsEq [] [] ∧ AV.sv (li (left - (↑(List.length (List.map intC L)) : Int))) = AV.sv (li (sz
 (List.length L) left)))) := by kernel_rfl
theorem c_szIntS (L : List Int) (left : Int) (h0 : 0 ≤ left) (h : left ≤ 2147483647)  : P_c_szIntS L left := by
  refine CallOK.ofRun wide (run_c_szIntS L left) Try.call149 Try.func149 rfl rfl rfl ?_
  with_reducible repeat' (first | apply And.intro | exact flatI | exact flatS | exact rowLens | (intro; skip) | apply obsN | apply obsC | apply obA | apply obM | apply obB | apply svA | apply tupA | apply lcA | apply lcS | apply svC | apply liC | apply lbC | apply lsC | apply vIc | apply vBc | apply vSc | apply vLc | apply mapC)
  all_goals (try simp only [std] at *)
  all_goals (try (first | with_reducible rfl | omega | assumption | (refine (decide_eq_true ?_).symm; assumption) | (refine (decide_eq_false ?_).symm; assumption) | (refine rowGet ?_; (first | omega | (simp only [std]; omega) | grind)) | (refine getC ?_ rfl; (first | omega | (simp only [std]; omega) | grind)) | (refine fill_step ?_ ?_; (first | omega | (simp only [std]; omega) | grind); (first | rfl | exact (Row.eq _).trans rfl)) | (refine fill_init ?_; (first | rfl | exact (Row.eq _).trans rfl)) | grind [sz, snocI, snocS, rowSnoc]))
abbrev P_c_szDatumS (L : List Datum) (left : Int) : Prop := CallOK Try.prog 118 [] [ll (L.map datumC), li left] [] (.sv (li (sz (L.length + sumBy wD L) left)))
abbrev P_c_szDatum (x : Datum) (left : Int) : Prop := CallOK Try.prog 42 [] [datumA x, li left] [] (.sv (li (sz (wD x) left)))
def Tc_szDatumSLa (L : List Datum) (left : Int) (x0 : SV) (x1 : SV) : St := St.mk (regsOf 27 [(0, AV.sv (ll (List.map datumC L))), (1, AV.sv x1), (5, AV.sv x0)]) [] 0 
def Lc_szDatumSLa (L : List Datum) (left : Int) (k : Nat × Int) : St := Tc_szDatumSLa L left (li (↑(Prod.fst k) : Int)) (li (Prod.snd k)) 
def Ic_szDatumSLa (L : List Datum) (left : Int) : Nat → St → Prop := Head (Lc_szDatumSLa L left) (fun k => Prod.fst k ≤ List.length L ∧ List.length L ≤ 9223372036854775807 ∧ 0 ≤
 Prod.snd k ∧ Prod.snd k ≤ left ∧ sz (sumBy wD (List.drop (Prod.fst k) L)) (Prod.snd k) = sz (List.length L + sumBy wD L) left) fun k => List.length L - Prod.fst k 
def W0c_szDatumSLa (L : List Datum) (left : Int) (x0 : SV) : St := St.mk (regsOf 27 [(1, AV.sv x0)]) [] 0 
def W1c_szDatumSLa (L : List Datum) (left : Int) (x0 : SV) : St := St.mk (regsOf 27 [(4, AV.sv x0)]) [] 0 
def Yc_szDatumSLa (L : List Datum) (left : Int) : List (Prop × AEx × St) := [(0 ≤ sz (List.length L + sumBy wD L) left, AEx.exit 0, W0c_szDatumSLa L left (li (sz (List.length L +
 sumBy wD L) left))), (sz (List.length L + sumBy wD L) left = (-1 : Int), AEx.ret, W1c_szDatumSLa L left (li (-1 : Int)))]
theorem Hc_szDatumSLa {L : List Datum} {left : Int} {k : Nat × Int} {m : Nat} (h : (fun k => Prod.fst k ≤ List.length L ∧ List.length L ≤ 9223372036854775807 ∧ 0 ≤ Prod.snd k ∧
 Prod.snd k ≤ left ∧ sz (sumBy wD (List.drop (Prod.fst k) L)) (Prod.snd k) = sz (List.length L + sumBy wD L) left) k) (hm : (fun k => List.length L - Prod.fst k) k = m) :
 Ic_szDatumSLa L left m (Lc_szDatumSLa L left k) := hm ▸ Head.mk h
theorem Ec_szDatumSLa {L : List Datum} {left : Int} {k : Nat × Int} {x0 : SV} {x1 : SV} (h0 : x0 = (li (↑(Prod.fst k) : Int))) (h1 : x1 = (li (Prod.snd k))) : Tc_szDatumSLa L left
 x0 x1 = Lc_szDatumSLa L left k := by
  rw [h0, h1]
  rfl
theorem EW0c_szDatumSLa {L : List Datum} {left : Int} {x0 y0 : SV} (h0 : x0 = y0) : W0c_szDatumSLa L left x0 = W0c_szDatumSLa L left y0 := by rw [h0]
theorem EW1c_szDatumSLa {L : List Datum} {left : Int} {x0 y0 : SV} (h0 : x0 = y0) : W1c_szDatumSLa L left x0 = W1c_szDatumSLa L left y0 := by rw [h0]
theorem run_c_szDatumSLa (L : List Datum) (left : Int) (k : Nat × Int) : aexec Try.prog (loopAt Try.f118 0) (Lc_szDatumSLa L left k) [Orc.br [Orc.cells (datumF (List.getD L
 (Prod.fst k) default)), Orc.call [Mode.rd, Mode.rd] [] (AV.sv (li (sz (wD (List.getD L (Prod.fst k) default)) (Prod.snd k)))), Orc.br [Orc.ghost (Ghost.sel [] [4]), Orc.out 1]
 [Orc.ghost (Ghost.sel [] [0, 1, 5]), Orc.goto (List.length L - (Prod.fst k + 1)) (Lc_szDatumSLa L left (Prod.fst k + 1, sz (wD (List.getD L (Prod.fst k) default)) (Prod.snd k)))]]
 [Orc.ghost (Ghost.sel [] [1]), Orc.out 0]] (loopK (Ic_szDatumSLa L left) (Yc_szDatumSLa L left) (List.length L - Prod.fst k)) = (List.length (List.map datumC L) ≤
 9223372036854775807 → (decide ((↑(Prod.fst k) : Int) < (↑(List.length (List.map datumC L)) : Int)) = true → (0 ≤ (↑(Prod.fst k) : Int) ∧ (List.map datumC L)[Int.toNat (↑(Prod.fst
 k) : Int)]? = some (datumF (List.getD L (Prod.fst k) default))) ∧ P_c_szDatum (List.getD L (Prod.fst k) default) (Prod.snd k) ∧ (decide (sz (wD (List.getD L (Prod.fst k) default))
 (Prod.snd k) < 0) = true → sz (List.length L + sumBy wD L) left = (-1 : Int) ∧ W1c_szDatumSLa L left (li (-1 : Int)) = W1c_szDatumSLa L left (li (-1 : Int))) ∧ (decide (sz (wD
 (List.getD L (Prod.fst k) default)) (Prod.snd k) < 0) = false → rng IntKind.i64 ((↑(Prod.fst k) : Int) + 1) ∧ List.length L - (Prod.fst k + 1) < List.length L - Prod.fst k ∧
 Tc_szDatumSLa L left (li ((↑(Prod.fst k) : Int) + 1)) (li (sz (wD (List.getD L (Prod.fst k) default)) (Prod.snd k))) = Lc_szDatumSLa L left (Prod.fst k + 1, sz (wD (List.getD L
 (Prod.fst k) default)) (Prod.snd k)) ∧ Ic_szDatumSLa L left (List.length L - (Prod.fst k + 1)) (Lc_szDatumSLa L left (Prod.fst k + 1, sz (wD (List.getD L (Prod.fst k) default))
 (Prod.snd k))))) ∧ (decide ((↑(Prod.fst k) : Int) < (↑(List.length (List.map datumC L)) : Int)) = false → 0 ≤ sz (List.length L + sumBy wD L) left ∧ W0c_szDatumSLa L left (li
 (Prod.snd k)) = W0c_szDatumSLa L left (li (sz (List.length L + sumBy wD L) left)))) := by kernel_rfl
theorem Sc_szDatumSLa (L : List Datum) (left : Int) (h0 : 0 ≤ left) (h : left ≤ 2147483647) (ih : ∀ (x : Datum), x ∈ L → ∀ (left : Int), 0 ≤ left → left ≤ 2147483647 → P_c_szDatum
 x left)  : LoopSem Try.prog (loopAt Try.f118 0) (Ic_szDatumSLa L left) (Yc_szDatumSLa L left) := by
  refine LoopSem.ofHead wide fun k h => ⟨_, _, run_c_szDatumSLa L left k, ?_⟩
  obtain ⟨i, n⟩ := k
  simp only at *
  with_reducible repeat' (first | apply And.intro | exact flatI | exact flatS | exact rowLens | exact ih | (intro; skip) | apply obsN | apply obsC | apply obA | apply obM | apply obB | apply svA | apply tupA | apply lcA | apply lcS | apply svC | apply liC | apply lbC | apply lsC | apply vIc | apply vBc | apply vSc | apply vLc | apply mapC | apply Hc_szDatumSLa | apply Ec_szDatumSLa | apply EW0c_szDatumSLa | apply EW1c_szDatumSLa | apply ih)
  all_goals (try simp only [std] at *)
  all_goals (try (first | with_reducible rfl | omega | assumption | (refine (decide_eq_true ?_).symm; assumption) | (refine (decide_eq_false ?_).symm; assumption) | (refine rowGet ?_; (first | omega | (simp only [std]; omega) | grind)) | (refine getC ?_ rfl; (first | omega | (simp only [std]; omega) | grind)) | (refine fill_step ?_ ?_; (first | omega | (simp only [std]; omega) | grind); (first | rfl | exact (Row.eq _).trans rfl)) | (refine fill_init ?_; (first | rfl | exact (Row.eq _).trans rfl)) | grind [drop_get, sumBy, sz, getD_mem', snocI, snocS, rowSnoc]))
theorem run_c_szDatumS (L : List Datum) (left : Int) : aexec Try.prog (Option.getD (Func.body Try.f118) Code.skip) (entry [] [ll (List.map datumC L), li left] 27) [Orc.br [Orc.fin
 []] [Orc.ghost (Ghost.sel [] [0, 1, 5]), Orc.loop (List.length L - 0) (Lc_szDatumSLa L left (0, left - (↑(List.length L) : Int))) (Ic_szDatumSLa L left) [(0 ≤ sz (List.length L +
 sumBy wD L) left, AEx.exit 0, W0c_szDatumSLa L left (li (sz (List.length L + sumBy wD L) left)), [Orc.fin []]), (sz (List.length L + sumBy wD L) left = (-1 : Int), AEx.ret,
 W1c_szDatumSLa L left (li (-1 : Int)), [Orc.fin []])]]] (finK Try.prog [ResultVar.tmp 4] [] (AV.sv (li (sz (List.length L + sumBy wD L) left)))) = (List.length (List.map datumC L)
 ≤ 9223372036854775807 → rng IntKind.i64 (left - (↑(List.length (List.map datumC L)) : Int)) ∧ (decide (left - (↑(List.length (List.map datumC L)) : Int) < 0) = true → ObsEq [] []
 ∧ AV.sv (li (-1 : Int)) = AV.sv (li (sz (List.length L + sumBy wD L) left))) ∧ (decide (left - (↑(List.length (List.map datumC L)) : Int) < 0) = false → Tc_szDatumSLa L left (li
 0) (li (left - (↑(List.length (List.map datumC L)) : Int))) = Lc_szDatumSLa L left (0, left - (↑(List.length L) : Int)) ∧ Ic_szDatumSLa L left (List.length L - 0) (Lc_szDatumSLa L
 left (0, left - (↑(List.length L) : Int))) ∧ LoopSem Try.prog (loopAt Try.f118 0) (Ic_szDatumSLa L left) (Yc_szDatumSLa L left) ∧ (Int.NonNeg (sz (List.length L + sumBy wD L) left
 - 0) → ObsEq [] [] ∧ AV.sv (li (sz (List.length L + sumBy wD L) left)) = AV.sv (li (sz (List.length L + sumBy wD L) left))) ∧ (sz (List.length L + sumBy wD L) left = (-1 : Int) →
 ObsEq [] [] ∧ AV.sv (li (-1 : Int)) = AV.sv (li (sz (List.length L + sumBy wD L) left))) ∧ True)) := by kernel_rfl
theorem c_szDatumS (L : List Datum) (left : Int) (h0 : 0 ≤ left) (h : left ≤ 2147483647) (ih : ∀ x ∈ L, ∀ (left : Int) (h0 : 0 ≤ left) (h : left ≤ 2147483647), P_c_szDatum x left) 
 : P_c_szDatumS L left := by
  refine CallOK.ofRun wide (run_c_szDatumS L left) Try.call118 Try.func118 rfl rfl rfl ?_
  with_reducible repeat' (first | apply And.intro | exact flatI | exact flatS | exact rowLens | exact ih | (intro; skip) | apply obsN | apply obsC | apply obA | apply obM | apply obB | apply svA | apply tupA | apply lcA | apply lcS | apply svC | apply liC | apply lbC | apply lsC | apply vIc | apply vBc | apply vSc | apply vLc | apply mapC | apply Hc_szDatumSLa | apply Ec_szDatumSLa | apply Sc_szDatumSLa | apply EW0c_szDatumSLa | apply EW1c_szDatumSLa)
  all_goals (try simp only [std] at *)
  all_goals (try (first | with_reducible rfl | omega | assumption | (refine (decide_eq_true ?_).symm; assumption) | (refine (decide_eq_false ?_).symm; assumption) | (refine rowGet ?_; (first | omega | (simp only [std]; omega) | grind)) | (refine getC ?_ rfl; (first | omega | (simp only [std]; omega) | grind)) | (refine fill_step ?_ ?_; (first | omega | (simp only [std]; omega) | grind); (first | rfl | exact (Row.eq _).trans rfl)) | (refine fill_init ?_; (first | rfl | exact (Row.eq _).trans rfl)) | grind [sz, snocI, snocS, rowSnoc]))
theorem run_c_szDatum_s (x : Datum) (left : Int) : aexec Try.prog (Option.getD (Func.body Try.f42) Code.skip) (entry [] [datumA x, li left] 19) [Orc.br [Orc.fin []] [Orc.call
 [Mode.rd, Mode.rd] [] (AV.sv (li (sz (List.length (Datum.items x) + sumBy wD (Datum.items x)) (left - (↑(List.length (Array.toList (ByteArray.data (Datum.text x)))) : Int))))),
 Orc.br [Orc.fin []] [Orc.fin []]]] (finK Try.prog [ResultVar.tmp 4] [] (AV.sv (li (sz (wD x) left)))) = (List.length (Array.toList (ByteArray.data (Datum.text x))) ≤
 9223372036854775807 → rng IntKind.i64 (left - (↑(List.length (Array.toList (ByteArray.data (Datum.text x)))) : Int)) ∧ (decide (left - (↑(List.length (Array.toList (ByteArray.data
 (Datum.text x)))) : Int) < 0) = true → ObsEq [] [] ∧ AV.sv (li (-1 : Int)) = AV.sv (li (sz (wD x) left))) ∧ (decide (left - (↑(List.length (Array.toList (ByteArray.data
 (Datum.text x)))) : Int) < 0) = false → P_c_szDatumS (Datum.items x) (left - (↑(List.length (Array.toList (ByteArray.data (Datum.text x)))) : Int)) ∧ (decide (sz (List.length
 (Datum.items x) + sumBy wD (Datum.items x)) (left - (↑(List.length (Array.toList (ByteArray.data (Datum.text x)))) : Int)) < 0) = true → ObsEq [] [] ∧ AV.sv (li (-1 : Int)) =
 AV.sv (li (sz (wD x) left))) ∧ (decide (sz (List.length (Datum.items x) + sumBy wD (Datum.items x)) (left - (↑(List.length (Array.toList (ByteArray.data (Datum.text x)))) : Int))
 < 0) = false → ObsEq [] [] ∧ AV.sv (li (sz (List.length (Datum.items x) + sumBy wD (Datum.items x)) (left - (↑(List.length (Array.toList (ByteArray.data (Datum.text x)))) :
 Int)))) = AV.sv (li (sz (wD x) left))))) := by kernel_rfl
theorem c_szDatum_s (x : Datum) (left : Int) (h0 : 0 ≤ left) (h : left ≤ 2147483647) (ih : ∀ z ∈ x.items, ∀ (left : Int) (h0 : 0 ≤ left) (h : left ≤ 2147483647), P_c_szDatum z
 left)  : P_c_szDatum x left := by
  refine CallOK.ofRun wide (run_c_szDatum_s x left) Try.call42 Try.func42 rfl rfl rfl ?_
  with_reducible repeat' (first | apply And.intro | exact flatI | exact flatS | exact rowLens | exact ih | (intro; skip) | apply obsN | apply obsC | apply obA | apply obM | apply obB | apply svA | apply tupA | apply lcA | apply lcS | apply svC | apply liC | apply lbC | apply lsC | apply vIc | apply vBc | apply vSc | apply vLc | apply mapC | apply c_szDatumS | apply ih)
  all_goals (try simp only [std] at *)
  all_goals (try (first | with_reducible rfl | omega | assumption | (refine (decide_eq_true ?_).symm; assumption) | (refine (decide_eq_false ?_).symm; assumption) | (refine rowGet ?_; (first | omega | (simp only [std]; omega) | grind)) | (refine getC ?_ rfl; (first | omega | (simp only [std]; omega) | grind)) | (refine fill_step ?_ ?_; (first | omega | (simp only [std]; omega) | grind); (first | rfl | exact (Row.eq _).trans rfl)) | (refine fill_init ?_; (first | rfl | exact (Row.eq _).trans rfl)) | grind [wD_eq, sz, wS, snocI, snocS, rowSnoc]))
theorem c_szDatum (x : Datum) : ∀ (left : Int) (h0 : 0 ≤ left) (h : left ≤ 2147483647), P_c_szDatum x left := Datum.ind (P := fun x => ∀ (left : Int) (h0 : 0 ≤ left) (h : left ≤ 2147483647), P_c_szDatum x left) (fun x ih left h0 h => c_szDatum_s x left h0 h ih) x
abbrev P_c_szCoreS (L : List Core) (left : Int) : Prop := CallOK Try.prog 159 [] [ll (L.map coreC), li left] [] (.sv (li (sz (L.length + sumBy wC L) left)))
abbrev P_c_szCore (x : Core) (left : Int) : Prop := CallOK Try.prog 58 [] [coreA x, li left] [] (.sv (li (sz (wC x) left)))
def Tc_szCoreSLa (L : List Core) (left : Int) (x0 : SV) (x1 : SV) : St := St.mk (regsOf 27 [(0, AV.sv (ll (List.map coreC L))), (1, AV.sv x1), (5, AV.sv x0)]) [] 0 
def Lc_szCoreSLa (L : List Core) (left : Int) (k : Nat × Int) : St := Tc_szCoreSLa L left (li (↑(Prod.fst k) : Int)) (li (Prod.snd k)) 
def Ic_szCoreSLa (L : List Core) (left : Int) : Nat → St → Prop := Head (Lc_szCoreSLa L left) (fun k => Prod.fst k ≤ List.length L ∧ List.length L ≤ 9223372036854775807 ∧ 0 ≤
 Prod.snd k ∧ Prod.snd k ≤ left ∧ sz (sumBy wC (List.drop (Prod.fst k) L)) (Prod.snd k) = sz (List.length L + sumBy wC L) left) fun k => List.length L - Prod.fst k 
def W0c_szCoreSLa (L : List Core) (left : Int) (x0 : SV) : St := St.mk (regsOf 27 [(1, AV.sv x0)]) [] 0 
def W1c_szCoreSLa (L : List Core) (left : Int) (x0 : SV) : St := St.mk (regsOf 27 [(4, AV.sv x0)]) [] 0 
def Yc_szCoreSLa (L : List Core) (left : Int) : List (Prop × AEx × St) := [(0 ≤ sz (List.length L + sumBy wC L) left, AEx.exit 0, W0c_szCoreSLa L left (li (sz (List.length L +
 sumBy wC L) left))), (sz (List.length L + sumBy wC L) left = (-1 : Int), AEx.ret, W1c_szCoreSLa L left (li (-1 : Int)))]
theorem Hc_szCoreSLa {L : List Core} {left : Int} {k : Nat × Int} {m : Nat} (h : (fun k => Prod.fst k ≤ List.length L ∧ List.length L ≤ 9223372036854775807 ∧ 0 ≤ Prod.snd k ∧
 Prod.snd k ≤ left ∧ sz (sumBy wC (List.drop (Prod.fst k) L)) (Prod.snd k) = sz (List.length L + sumBy wC L) left) k) (hm : (fun k => List.length L - Prod.fst k) k = m) :
 Ic_szCoreSLa L left m (Lc_szCoreSLa L left k) := hm ▸ Head.mk h
theorem Ec_szCoreSLa {L : List Core} {left : Int} {k : Nat × Int} {x0 : SV} {x1 : SV} (h0 : x0 = (li (↑(Prod.fst k) : Int))) (h1 : x1 = (li (Prod.snd k))) : Tc_szCoreSLa L left x0
 x1 = Lc_szCoreSLa L left k := by
  rw [h0, h1]
  rfl
theorem EW0c_szCoreSLa {L : List Core} {left : Int} {x0 y0 : SV} (h0 : x0 = y0) : W0c_szCoreSLa L left x0 = W0c_szCoreSLa L left y0 := by rw [h0]
theorem EW1c_szCoreSLa {L : List Core} {left : Int} {x0 y0 : SV} (h0 : x0 = y0) : W1c_szCoreSLa L left x0 = W1c_szCoreSLa L left y0 := by rw [h0]
theorem run_c_szCoreSLa (L : List Core) (left : Int) (k : Nat × Int) : aexec Try.prog (loopAt Try.f159 0) (Lc_szCoreSLa L left k) [Orc.br [Orc.cells (coreF (List.getD L (Prod.fst
 k) default)), Orc.call [Mode.rd, Mode.rd] [] (AV.sv (li (sz (wC (List.getD L (Prod.fst k) default)) (Prod.snd k)))), Orc.br [Orc.ghost (Ghost.sel [] [4]), Orc.out 1] [Orc.ghost
 (Ghost.sel [] [0, 1, 5]), Orc.goto (List.length L - (Prod.fst k + 1)) (Lc_szCoreSLa L left (Prod.fst k + 1, sz (wC (List.getD L (Prod.fst k) default)) (Prod.snd k)))]] [Orc.ghost
 (Ghost.sel [] [1]), Orc.out 0]] (loopK (Ic_szCoreSLa L left) (Yc_szCoreSLa L left) (List.length L - Prod.fst k)) = (List.length (List.map coreC L) ≤ 9223372036854775807 → (decide
 ((↑(Prod.fst k) : Int) < (↑(List.length (List.map coreC L)) : Int)) = true → (0 ≤ (↑(Prod.fst k) : Int) ∧ (List.map coreC L)[Int.toNat (↑(Prod.fst k) : Int)]? = some (coreF
 (List.getD L (Prod.fst k) default))) ∧ P_c_szCore (List.getD L (Prod.fst k) default) (Prod.snd k) ∧ (decide (sz (wC (List.getD L (Prod.fst k) default)) (Prod.snd k) < 0) = true →
 sz (List.length L + sumBy wC L) left = (-1 : Int) ∧ W1c_szCoreSLa L left (li (-1 : Int)) = W1c_szCoreSLa L left (li (-1 : Int))) ∧ (decide (sz (wC (List.getD L (Prod.fst k)
 default)) (Prod.snd k) < 0) = false → rng IntKind.i64 ((↑(Prod.fst k) : Int) + 1) ∧ List.length L - (Prod.fst k + 1) < List.length L - Prod.fst k ∧ Tc_szCoreSLa L left (li
 ((↑(Prod.fst k) : Int) + 1)) (li (sz (wC (List.getD L (Prod.fst k) default)) (Prod.snd k))) = Lc_szCoreSLa L left (Prod.fst k + 1, sz (wC (List.getD L (Prod.fst k) default))
 (Prod.snd k)) ∧ Ic_szCoreSLa L left (List.length L - (Prod.fst k + 1)) (Lc_szCoreSLa L left (Prod.fst k + 1, sz (wC (List.getD L (Prod.fst k) default)) (Prod.snd k))))) ∧ (decide
 ((↑(Prod.fst k) : Int) < (↑(List.length (List.map coreC L)) : Int)) = false → 0 ≤ sz (List.length L + sumBy wC L) left ∧ W0c_szCoreSLa L left (li (Prod.snd k)) = W0c_szCoreSLa L
 left (li (sz (List.length L + sumBy wC L) left)))) := by kernel_rfl
theorem Sc_szCoreSLa (L : List Core) (left : Int) (h0 : 0 ≤ left) (h : left ≤ 2147483647) (ih : ∀ (x : Core), x ∈ L → ∀ (left : Int), 0 ≤ left → left ≤ 2147483647 → P_c_szCore x
 left)  : LoopSem Try.prog (loopAt Try.f159 0) (Ic_szCoreSLa L left) (Yc_szCoreSLa L left) := by
  refine LoopSem.ofHead wide fun k h => ⟨_, _, run_c_szCoreSLa L left k, ?_⟩
  obtain ⟨i, n⟩ := k
  simp only at *
  with_reducible repeat' (first | apply And.intro | exact flatI | exact flatS | exact rowLens | exact ih | (intro; skip) | apply obsN | apply obsC | apply obA | apply obM | apply obB | apply svA | apply tupA | apply lcA | apply lcS | apply svC | apply liC | apply lbC | apply lsC | apply vIc | apply vBc | apply vSc | apply vLc | apply mapC | apply Hc_szCoreSLa | apply Ec_szCoreSLa | apply EW0c_szCoreSLa | apply EW1c_szCoreSLa | apply ih)
  all_goals (try simp only [std] at *)
  all_goals (try (first | with_reducible rfl | omega | assumption | (refine (decide_eq_true ?_).symm; assumption) | (refine (decide_eq_false ?_).symm; assumption) | (refine rowGet ?_; (first | omega | (simp only [std]; omega) | grind)) | (refine getC ?_ rfl; (first | omega | (simp only [std]; omega) | grind)) | (refine fill_step ?_ ?_; (first | omega | (simp only [std]; omega) | grind); (first | rfl | exact (Row.eq _).trans rfl)) | (refine fill_init ?_; (first | rfl | exact (Row.eq _).trans rfl)) | grind [drop_get, sumBy, sz, getD_mem', snocI, snocS, rowSnoc]))
theorem run_c_szCoreS (L : List Core) (left : Int) : aexec Try.prog (Option.getD (Func.body Try.f159) Code.skip) (entry [] [ll (List.map coreC L), li left] 27) [Orc.br [Orc.fin []]
 [Orc.ghost (Ghost.sel [] [0, 1, 5]), Orc.loop (List.length L - 0) (Lc_szCoreSLa L left (0, left - (↑(List.length L) : Int))) (Ic_szCoreSLa L left) [(0 ≤ sz (List.length L + sumBy
 wC L) left, AEx.exit 0, W0c_szCoreSLa L left (li (sz (List.length L + sumBy wC L) left)), [Orc.fin []]), (sz (List.length L + sumBy wC L) left = (-1 : Int), AEx.ret, W1c_szCoreSLa
 L left (li (-1 : Int)), [Orc.fin []])]]] (finK Try.prog [ResultVar.tmp 4] [] (AV.sv (li (sz (List.length L + sumBy wC L) left)))) = (List.length (List.map coreC L) ≤
 9223372036854775807 → rng IntKind.i64 (left - (↑(List.length (List.map coreC L)) : Int)) ∧ (decide (left - (↑(List.length (List.map coreC L)) : Int) < 0) = true → ObsEq [] [] ∧
 AV.sv (li (-1 : Int)) = AV.sv (li (sz (List.length L + sumBy wC L) left))) ∧ (decide (left - (↑(List.length (List.map coreC L)) : Int) < 0) = false → Tc_szCoreSLa L left (li 0)
 (li (left - (↑(List.length (List.map coreC L)) : Int))) = Lc_szCoreSLa L left (0, left - (↑(List.length L) : Int)) ∧ Ic_szCoreSLa L left (List.length L - 0) (Lc_szCoreSLa L left
 (0, left - (↑(List.length L) : Int))) ∧ LoopSem Try.prog (loopAt Try.f159 0) (Ic_szCoreSLa L left) (Yc_szCoreSLa L left) ∧ (Int.NonNeg (sz (List.length L + sumBy wC L) left - 0) →
 ObsEq [] [] ∧ AV.sv (li (sz (List.length L + sumBy wC L) left)) = AV.sv (li (sz (List.length L + sumBy wC L) left))) ∧ (sz (List.length L + sumBy wC L) left = (-1 : Int) → ObsEq
 [] [] ∧ AV.sv (li (-1 : Int)) = AV.sv (li (sz (List.length L + sumBy wC L) left))) ∧ True)) := by kernel_rfl
theorem c_szCoreS (L : List Core) (left : Int) (h0 : 0 ≤ left) (h : left ≤ 2147483647) (ih : ∀ x ∈ L, ∀ (left : Int) (h0 : 0 ≤ left) (h : left ≤ 2147483647), P_c_szCore x left)  :
 P_c_szCoreS L left := by
  refine CallOK.ofRun wide (run_c_szCoreS L left) Try.call159 Try.func159 rfl rfl rfl ?_
  with_reducible repeat' (first | apply And.intro | exact flatI | exact flatS | exact rowLens | exact ih | (intro; skip) | apply obsN | apply obsC | apply obA | apply obM | apply obB | apply svA | apply tupA | apply lcA | apply lcS | apply svC | apply liC | apply lbC | apply lsC | apply vIc | apply vBc | apply vSc | apply vLc | apply mapC | apply Hc_szCoreSLa | apply Ec_szCoreSLa | apply Sc_szCoreSLa | apply EW0c_szCoreSLa | apply EW1c_szCoreSLa)
  all_goals (try simp only [std] at *)
  all_goals (try (first | with_reducible rfl | omega | assumption | (refine (decide_eq_true ?_).symm; assumption) | (refine (decide_eq_false ?_).symm; assumption) | (refine rowGet ?_; (first | omega | (simp only [std]; omega) | grind)) | (refine getC ?_ rfl; (first | omega | (simp only [std]; omega) | grind)) | (refine fill_step ?_ ?_; (first | omega | (simp only [std]; omega) | grind); (first | rfl | exact (Row.eq _).trans rfl)) | (refine fill_init ?_; (first | rfl | exact (Row.eq _).trans rfl)) | grind [sz, snocI, snocS, rowSnoc]))
theorem run_c_szCore_s (x : Core) (left : Int) : aexec Try.prog (Option.getD (Func.body Try.f58) Code.skip) (entry [] [coreA x, li left] 24) [Orc.call [Mode.rd, Mode.rd] [] (AV.sv
 (li (sz (List.length (Core.params x)) left))), Orc.br [Orc.fin []] [Orc.call [Mode.rd, Mode.rd] [] (AV.sv (li (sz (wD (Core.datum x)) (sz (List.length (Core.params x)) left)))),
 Orc.br [Orc.fin []] [Orc.call [Mode.rd, Mode.rd] [] (AV.sv (li (sz (List.length (Core.kids x) + sumBy wC (Core.kids x)) (sz (wD (Core.datum x)) (sz (List.length (Core.params x))
 left))))), Orc.br [Orc.fin []] [Orc.fin []]]]] (finK Try.prog [ResultVar.tmp 4] [] (AV.sv (li (sz (wC x) left)))) = (P_c_szIntS (Core.params x) left ∧ (decide (sz (List.length
 (Core.params x)) left < 0) = true → ObsEq [] [] ∧ AV.sv (li (-1 : Int)) = AV.sv (li (sz (wC x) left))) ∧ (decide (sz (List.length (Core.params x)) left < 0) = false → P_c_szDatum
 (Core.datum x) (sz (List.length (Core.params x)) left) ∧ (decide (sz (wD (Core.datum x)) (sz (List.length (Core.params x)) left) < 0) = true → ObsEq [] [] ∧ AV.sv (li (-1 : Int))
 = AV.sv (li (sz (wC x) left))) ∧ (decide (sz (wD (Core.datum x)) (sz (List.length (Core.params x)) left) < 0) = false → P_c_szCoreS (Core.kids x) (sz (wD (Core.datum x)) (sz
 (List.length (Core.params x)) left)) ∧ (decide (sz (List.length (Core.kids x) + sumBy wC (Core.kids x)) (sz (wD (Core.datum x)) (sz (List.length (Core.params x)) left)) < 0) =
 true → ObsEq [] [] ∧ AV.sv (li (-1 : Int)) = AV.sv (li (sz (wC x) left))) ∧ (decide (sz (List.length (Core.kids x) + sumBy wC (Core.kids x)) (sz (wD (Core.datum x)) (sz
 (List.length (Core.params x)) left)) < 0) = false → ObsEq [] [] ∧ AV.sv (li (sz (List.length (Core.kids x) + sumBy wC (Core.kids x)) (sz (wD (Core.datum x)) (sz (List.length
 (Core.params x)) left)))) = AV.sv (li (sz (wC x) left)))))) := by kernel_rfl
theorem c_szCore_s (x : Core) (left : Int) (h0 : 0 ≤ left) (h : left ≤ 2147483647) (ih : ∀ z ∈ x.kids, ∀ (left : Int) (h0 : 0 ≤ left) (h : left ≤ 2147483647), P_c_szCore z left)  :
 P_c_szCore x left := by
  refine CallOK.ofRun wide (run_c_szCore_s x left) Try.call58 Try.func58 rfl rfl rfl ?_
  with_reducible repeat' (first | apply And.intro | exact flatI | exact flatS | exact rowLens | exact ih | (intro; skip) | apply obsN | apply obsC | apply obA | apply obM | apply obB | apply svA | apply tupA | apply lcA | apply lcS | apply svC | apply liC | apply lbC | apply lsC | apply vIc | apply vBc | apply vSc | apply vLc | apply mapC | apply c_szIntS | apply c_szDatum | apply c_szCoreS | apply ih)
  all_goals (try simp only [std] at *)
  all_goals (try (first | with_reducible rfl | omega | assumption | (refine (decide_eq_true ?_).symm; assumption) | (refine (decide_eq_false ?_).symm; assumption) | (refine rowGet ?_; (first | omega | (simp only [std]; omega) | grind)) | (refine getC ?_ rfl; (first | omega | (simp only [std]; omega) | grind)) | (refine fill_step ?_ ?_; (first | omega | (simp only [std]; omega) | grind); (first | rfl | exact (Row.eq _).trans rfl)) | (refine fill_init ?_; (first | rfl | exact (Row.eq _).trans rfl)) | grind [wC_eq, sz, wS, snocI, snocS, rowSnoc]))
theorem c_szCore (x : Core) : ∀ (left : Int) (h0 : 0 ≤ left) (h : left ≤ 2147483647), P_c_szCore x left := Core.ind (P := fun x => ∀ (left : Int) (h0 : 0 ≤ left) (h : left ≤ 2147483647), P_c_szCore x left) (fun x ih left h0 h => c_szCore_s x left h0 h ih) x
end Go.Proofs.Ytehpjofddjmbpaa
end
section
namespace Go.Proofs.Ytehpjofddjmbpaa
open Go Go.Proofs.Ytehpjofddjmbpaa.Ab
set_option linter.unusedVariables false
set_option linter.unusedSimpArgs false
set_option maxHeartbeats 4000000
abbrev P_c_toIntS (L : List Int) : Prop := CallOK Try.prog 61 [] [ll (L.map intC)] [.arr true 1 (L.map intC)] (.sv (.one (.ref 0)))
def Tc_toIntSLa (L : List Int) (x0 : SV) (x1 : Ob) : St := St.mk (regsOf 22 [(0, AV.sv (ll (List.map intC L))), (3, AV.sv (SV.one (AC.ref 0))), (4, AV.sv x0)]) [x1] 0 
def Lc_toIntSLa (L : List Int) (k : Nat) : St := Tc_toIntSLa L (li (↑k : Int)) (Ob.arr true 1 (List.map intC (fillTo L k))) 
def Ic_toIntSLa (L : List Int) : Nat → St → Prop := Head (Lc_toIntSLa L) (fun k => k ≤ List.length L ∧ List.length L ≤ 9223372036854775807) fun k => List.length L - k 
def W0c_toIntSLa (L : List Int) (x0 : Ob) : St := St.mk (regsOf 22 [(3, AV.sv (SV.one (AC.ref 0)))]) [x0] 0 
def Yc_toIntSLa (L : List Int) : List (Prop × AEx × St) := [(True, AEx.exit 0, W0c_toIntSLa L (Ob.arr true 1 (List.map intC L)))]
theorem Hc_toIntSLa {L : List Int} {k : Nat} {m : Nat} (h : (fun k => k ≤ List.length L ∧ List.length L ≤ 9223372036854775807) k) (hm : (fun k => List.length L - k) k = m) :
 Ic_toIntSLa L m (Lc_toIntSLa L k) := hm ▸ Head.mk h
theorem Ec_toIntSLa {L : List Int} {k : Nat} {x0 : SV} {x1 : Ob} (h0 : x0 = (li (↑k : Int))) (h1 : x1 = (Ob.arr true 1 (List.map intC (fillTo L k)))) : Tc_toIntSLa L x0 x1 =
 Lc_toIntSLa L k := by
  rw [h0, h1]
  rfl
theorem EW0c_toIntSLa {L : List Int} {x0 y0 : Ob} (h0 : x0 = y0) : W0c_toIntSLa L x0 = W0c_toIntSLa L y0 := by rw [h0]
theorem run_c_toIntSLa (L : List Int) (k : Nat) : aexec Try.prog (loopAt Try.f61 0) (Lc_toIntSLa L k) [Orc.br [Orc.cells (intC (List.getD L k default)), Orc.cells (intC (List.getD
 (fillTo L k) (Int.toNat (↑k : Int)) default)), Orc.ghost (Ghost.sel [0] [0, 3, 4]), Orc.goto (List.length L - (k + 1)) (Lc_toIntSLa L (k + 1))] [Orc.ghost (Ghost.sel [0] [3]),
 Orc.out 0]] (loopK (Ic_toIntSLa L) (Yc_toIntSLa L) (List.length L - k)) = (List.length (List.map intC L) ≤ 9223372036854775807 → (decide ((↑k : Int) < (↑(List.length (List.map
 intC L)) : Int)) = true → (0 ≤ (↑k : Int) ∧ (List.map intC L)[Int.toNat (↑k : Int)]? = some [cI (List.getD L k 0)]) ∧ (0 ≤ (↑k : Int) ∧ Int.toNat (↑k : Int) < List.length
 (List.map intC (fillTo L k))) ∧ (List.map intC (fillTo L k))[Int.toNat (↑k : Int)]? = some [cI (List.getD (fillTo L k) (Int.toNat (↑k : Int)) 0)] ∧ rng IntKind.i64 ((↑k : Int) +
 1) ∧ List.length L - (k + 1) < List.length L - k ∧ Tc_toIntSLa L (li ((↑k : Int) + 1)) (Ob.arr true 1 (List.set (List.map intC (fillTo L k)) (Int.toNat (↑k : Int)) [cI (List.getD
 L k 0)])) = Lc_toIntSLa L (k + 1) ∧ Ic_toIntSLa L (List.length L - (k + 1)) (Lc_toIntSLa L (k + 1))) ∧ (decide ((↑k : Int) < (↑(List.length (List.map intC L)) : Int)) = false →
 True ∧ W0c_toIntSLa L (Ob.arr true 1 (List.map intC (fillTo L k))) = W0c_toIntSLa L (Ob.arr true 1 (List.map intC L)))) := by kernel_rfl
theorem Sc_toIntSLa (L : List Int) (h : List.length L ≤ 1048576)  : LoopSem Try.prog (loopAt Try.f61 0) (Ic_toIntSLa L) (Yc_toIntSLa L) := by
  refine LoopSem.ofHead wide fun k h => ⟨_, _, run_c_toIntSLa L k, ?_⟩
  with_reducible repeat' (first | apply And.intro | exact flatI | exact flatS | exact rowLens | (intro; skip) | apply obsN | apply obsC | apply obA | apply obM | apply obB | apply svA | apply tupA | apply lcA | apply lcS | apply svC | apply liC | apply lbC | apply lsC | apply vIc | apply vBc | apply vSc | apply vLc | apply mapC | apply Hc_toIntSLa | apply Ec_toIntSLa | apply EW0c_toIntSLa)
  all_goals (try simp only [std] at *)
  all_goals (try (first | with_reducible rfl | omega | assumption | (refine (decide_eq_true ?_).symm; assumption) | (refine (decide_eq_false ?_).symm; assumption) | (refine rowGet ?_; (first | omega | (simp only [std]; omega) | grind)) | (refine getC ?_ rfl; (first | omega | (simp only [std]; omega) | grind)) | (refine fill_step ?_ ?_; (first | omega | (simp only [std]; omega) | grind); (first | rfl | exact (Row.eq _).trans rfl)) | (refine fill_init ?_; (first | rfl | exact (Row.eq _).trans rfl)) | grind [fillTo_all, snocI, snocS, rowSnoc]))
theorem run_c_toIntS (L : List Int) : aexec Try.prog (Option.getD (Func.body Try.f61) Code.skip) (entry [] [ll (List.map intC L)] 22) [Orc.ghost (Ghost.sel [0] [0, 3, 4]), Orc.loop
 (List.length L - 0) (Lc_toIntSLa L 0) (Ic_toIntSLa L) [(True, AEx.exit 0, W0c_toIntSLa L (Ob.arr true 1 (List.map intC L)), [Orc.fin [0]])]] (finK Try.prog [ResultVar.tmp 2]
 [Ob.arr true 1 (List.map intC L)] (AV.sv (SV.one (AC.ref 0)))) = (List.length (List.map intC L) ≤ 9223372036854775807 → (0 ≤ (↑(List.length (List.map intC L)) : Int) ∧ 8 *
 Int.toNat (↑(List.length (List.map intC L)) : Int) ≤ 281474976710656) ∧ Tc_toIntSLa L (li 0) (Ob.arr true 1 (List.replicate (Int.toNat (↑(List.length (List.map intC L)) : Int))
 [cI 0])) = Lc_toIntSLa L 0 ∧ Ic_toIntSLa L (List.length L - 0) (Lc_toIntSLa L 0) ∧ LoopSem Try.prog (loopAt Try.f61 0) (Ic_toIntSLa L) (Yc_toIntSLa L) ∧ (True → ObsEq [Ob.arr true
 1 (List.map intC L)] [Ob.arr true 1 (List.map intC L)] ∧ AV.sv (SV.one (AC.ref 0)) = AV.sv (SV.one (AC.ref 0))) ∧ True) := by kernel_rfl
theorem c_toIntS (L : List Int) (h : L.length ≤ 1048576)  : P_c_toIntS L := by
  refine CallOK.ofRun wide (run_c_toIntS L) Try.call61 Try.func61 rfl rfl rfl ?_
  with_reducible repeat' (first | apply And.intro | exact flatI | exact flatS | exact rowLens | (intro; skip) | apply obsN | apply obsC | apply obA | apply obM | apply obB | apply svA | apply tupA | apply lcA | apply lcS | apply svC | apply liC | apply lbC | apply lsC | apply vIc | apply vBc | apply vSc | apply vLc | apply mapC | apply Hc_toIntSLa | apply Ec_toIntSLa | apply Sc_toIntSLa | apply EW0c_toIntSLa)
  all_goals (try simp only [std] at *)
  all_goals (try (first | with_reducible rfl | omega | assumption | (refine (decide_eq_true ?_).symm; assumption) | (refine (decide_eq_false ?_).symm; assumption) | (refine rowGet ?_; (first | omega | (simp only [std]; omega) | grind)) | (refine getC ?_ rfl; (first | omega | (simp only [std]; omega) | grind)) | (refine fill_step ?_ ?_; (first | omega | (simp only [std]; omega) | grind); (first | rfl | exact (Row.eq _).trans rfl)) | (refine fill_init ?_; (first | rfl | exact (Row.eq _).trans rfl)) | grind [snocI, snocS, rowSnoc]))
abbrev P_c_toDatumS (L : List Datum) : Prop := CallOK Try.prog 125 [] [ll (L.map datumC)] [.arr true 4 (L.map datumC)] (.sv (.one (.ref 0)))
abbrev P_c_toDatum (x : Datum) : Prop := CallOK Try.prog 44 [] [datumA x] (datumO x) (.sv (datumR x 0))
def Tc_toDatumSLa (L : List Datum) (x0 : SV) (x1 : Ob) : St := St.mk (regsOf 23 [(0, AV.sv (ll (List.map datumC L))), (3, AV.sv (SV.one (AC.ref 0))), (4, AV.sv x0)]) [x1] 0 
def Lc_toDatumSLa (L : List Datum) (k : Nat) : St := Tc_toDatumSLa L (li (↑k : Int)) (Ob.arr true 4 (List.map datumC (fillTo L k))) 
def Ic_toDatumSLa (L : List Datum) : Nat → St → Prop := Head (Lc_toDatumSLa L) (fun k => k ≤ List.length L ∧ List.length L ≤ 9223372036854775807) fun k => List.length L - k 
def W0c_toDatumSLa (L : List Datum) (x0 : Ob) : St := St.mk (regsOf 23 [(3, AV.sv (SV.one (AC.ref 0)))]) [x0] 0 
def Yc_toDatumSLa (L : List Datum) : List (Prop × AEx × St) := [(True, AEx.exit 0, W0c_toDatumSLa L (Ob.arr true 4 (List.map datumC L)))]
theorem Hc_toDatumSLa {L : List Datum} {k : Nat} {m : Nat} (h : (fun k => k ≤ List.length L ∧ List.length L ≤ 9223372036854775807) k) (hm : (fun k => List.length L - k) k = m) :
 Ic_toDatumSLa L m (Lc_toDatumSLa L k) := hm ▸ Head.mk h
theorem Ec_toDatumSLa {L : List Datum} {k : Nat} {x0 : SV} {x1 : Ob} (h0 : x0 = (li (↑k : Int))) (h1 : x1 = (Ob.arr true 4 (List.map datumC (fillTo L k)))) : Tc_toDatumSLa L x0 x1
 = Lc_toDatumSLa L k := by
  rw [h0, h1]
  rfl
theorem EW0c_toDatumSLa {L : List Datum} {x0 y0 : Ob} (h0 : x0 = y0) : W0c_toDatumSLa L x0 = W0c_toDatumSLa L y0 := by rw [h0]
theorem run_c_toDatumSLa (L : List Datum) (k : Nat) : aexec Try.prog (loopAt Try.f125 0) (Lc_toDatumSLa L k) [Orc.br [Orc.cells (datumF (List.getD L k default)), Orc.call [Mode.rd]
 (datumO (List.getD L k default)) (AV.sv (datumR (List.getD L k default) 0)), Orc.cells (datumF (List.getD (fillTo L k) (Int.toNat (↑k : Int)) default)), Orc.ghost (Ghost.sel [0]
 [0, 3, 4]), Orc.goto (List.length L - (k + 1)) (Lc_toDatumSLa L (k + 1))] [Orc.ghost (Ghost.sel [0] [3]), Orc.out 0]] (loopK (Ic_toDatumSLa L) (Yc_toDatumSLa L) (List.length L -
 k)) = (List.length (List.map datumC L) ≤ 9223372036854775807 → (decide ((↑k : Int) < (↑(List.length (List.map datumC L)) : Int)) = true → (0 ≤ (↑k : Int) ∧ (List.map datumC
 L)[Int.toNat (↑k : Int)]? = some (datumF (List.getD L k default))) ∧ P_c_toDatum (List.getD L k default) ∧ (0 ≤ (↑k : Int) ∧ Int.toNat (↑k : Int) < List.length (List.map datumC
 (fillTo L k))) ∧ (List.map datumC (fillTo L k))[Int.toNat (↑k : Int)]? = some (datumF (List.getD (fillTo L k) (Int.toNat (↑k : Int)) default)) ∧ rng IntKind.i64 ((↑k : Int) + 1) ∧
 List.length L - (k + 1) < List.length L - k ∧ Tc_toDatumSLa L (li ((↑k : Int) + 1)) (Ob.arr true 4 (List.set (List.map datumC (fillTo L k)) (Int.toNat (↑k : Int)) (datumF
 (List.getD L k default)))) = Lc_toDatumSLa L (k + 1) ∧ Ic_toDatumSLa L (List.length L - (k + 1)) (Lc_toDatumSLa L (k + 1))) ∧ (decide ((↑k : Int) < (↑(List.length (List.map datumC
 L)) : Int)) = false → True ∧ W0c_toDatumSLa L (Ob.arr true 4 (List.map datumC (fillTo L k))) = W0c_toDatumSLa L (Ob.arr true 4 (List.map datumC L)))) := by kernel_rfl
theorem Sc_toDatumSLa (L : List Datum) (h : List.length L + sumBy wD L ≤ 1048576) (ih : ∀ (x : Datum), x ∈ L → wD x ≤ 1048576 → P_c_toDatum x)  : LoopSem Try.prog (loopAt Try.f125
 0) (Ic_toDatumSLa L) (Yc_toDatumSLa L) := by
  refine LoopSem.ofHead wide fun k h => ⟨_, _, run_c_toDatumSLa L k, ?_⟩
  with_reducible repeat' (first | apply And.intro | exact flatI | exact flatS | exact rowLens | exact ih | (intro; skip) | apply obsN | apply obsC | apply obA | apply obM | apply obB | apply svA | apply tupA | apply lcA | apply lcS | apply svC | apply liC | apply lbC | apply lsC | apply vIc | apply vBc | apply vSc | apply vLc | apply mapC | apply Hc_toDatumSLa | apply Ec_toDatumSLa | apply EW0c_toDatumSLa | apply ih)
  all_goals (try simp only [std] at *)
  all_goals (try (first | with_reducible rfl | omega | assumption | (refine (decide_eq_true ?_).symm; assumption) | (refine (decide_eq_false ?_).symm; assumption) | (refine rowGet ?_; (first | omega | (simp only [std]; omega) | grind)) | (refine getC ?_ rfl; (first | omega | (simp only [std]; omega) | grind)) | (refine fill_step ?_ ?_; (first | omega | (simp only [std]; omega) | grind); (first | rfl | exact (Row.eq _).trans rfl)) | (refine fill_init ?_; (first | rfl | exact (Row.eq _).trans rfl)) | grind [fillTo_all, getD_mem', sumBy_mem, snocI, snocS, rowSnoc]))
theorem run_c_toDatumS (L : List Datum) : aexec Try.prog (Option.getD (Func.body Try.f125) Code.skip) (entry [] [ll (List.map datumC L)] 23) [Orc.ghost (Ghost.sel [0] [0, 3, 4]),
 Orc.loop (List.length L - 0) (Lc_toDatumSLa L 0) (Ic_toDatumSLa L) [(True, AEx.exit 0, W0c_toDatumSLa L (Ob.arr true 4 (List.map datumC L)), [Orc.fin [0]])]] (finK Try.prog
 [ResultVar.tmp 2] [Ob.arr true 4 (List.map datumC L)] (AV.sv (SV.one (AC.ref 0)))) = (List.length (List.map datumC L) ≤ 9223372036854775807 → (0 ≤ (↑(List.length (List.map datumC
 L)) : Int) ∧ 56 * Int.toNat (↑(List.length (List.map datumC L)) : Int) ≤ 281474976710656) ∧ Tc_toDatumSLa L (li 0) (Ob.arr true 4 (List.replicate (Int.toNat (↑(List.length
 (List.map datumC L)) : Int)) [cI 0, cI 0, cS (ByteArray.mk #[]), Cell.list []])) = Lc_toDatumSLa L 0 ∧ Ic_toDatumSLa L (List.length L - 0) (Lc_toDatumSLa L 0) ∧ LoopSem Try.prog
 (loopAt Try.f125 0) (Ic_toDatumSLa L) (Yc_toDatumSLa L) ∧ (True → ObsEq [Ob.arr true 4 (List.map datumC L)] [Ob.arr true 4 (List.map datumC L)] ∧ AV.sv (SV.one (AC.ref 0)) = AV.sv
 (SV.one (AC.ref 0))) ∧ True) := by kernel_rfl
theorem c_toDatumS (L : List Datum) (h : L.length + sumBy wD L ≤ 1048576) (ih : ∀ x ∈ L, ∀ (h : wD x ≤ 1048576), P_c_toDatum x)  : P_c_toDatumS L := by
  refine CallOK.ofRun wide (run_c_toDatumS L) Try.call125 Try.func125 rfl rfl rfl ?_
  with_reducible repeat' (first | apply And.intro | exact flatI | exact flatS | exact rowLens | exact ih | (intro; skip) | apply obsN | apply obsC | apply obA | apply obM | apply obB | apply svA | apply tupA | apply lcA | apply lcS | apply svC | apply liC | apply lbC | apply lsC | apply vIc | apply vBc | apply vSc | apply vLc | apply mapC | apply Hc_toDatumSLa | apply Ec_toDatumSLa | apply Sc_toDatumSLa | apply EW0c_toDatumSLa)
  all_goals (try simp only [std] at *)
  all_goals (try (first | with_reducible rfl | omega | assumption | (refine (decide_eq_true ?_).symm; assumption) | (refine (decide_eq_false ?_).symm; assumption) | (refine rowGet ?_; (first | omega | (simp only [std]; omega) | grind)) | (refine getC ?_ rfl; (first | omega | (simp only [std]; omega) | grind)) | (refine fill_step ?_ ?_; (first | omega | (simp only [std]; omega) | grind); (first | rfl | exact (Row.eq _).trans rfl)) | (refine fill_init ?_; (first | rfl | exact (Row.eq _).trans rfl)) | grind [snocI, snocS, rowSnoc]))
theorem run_c_toDatum_s (x : Datum) : aexec Try.prog (Option.getD (Func.body Try.f44) Code.skip) (entry [] [datumA x] 18) [Orc.call [Mode.rd] [Ob.arr true 4 (List.map datumC
 (Datum.items x))] (AV.sv (SV.one (AC.ref 0))), Orc.fin [3]] (finK Try.prog [ResultVar.cell 2 66] (datumO x) (AV.sv (datumR x 0))) = (P_c_toDatumS (Datum.items x) ∧ ObsEq [Ob.arr
 true 4 (List.map datumC (Datum.items x))] [Ob.arr true 4 (List.map datumC (Datum.items x))] ∧ AV.sv (SV.agg [vI (Datum.kind x), vI (Datum.number x), vS (Datum.text x), AC.ref 0])
 = AV.sv (SV.agg [vI (Datum.kind x), vI (Datum.number x), vS (Datum.text x), AC.ref 0])) := by kernel_rfl
theorem c_toDatum_s (x : Datum) (h : wD x ≤ 1048576) (ih : ∀ z ∈ x.items, ∀ (h : wD z ≤ 1048576), P_c_toDatum z)  : P_c_toDatum x := by
  refine CallOK.ofRun wide (run_c_toDatum_s x) Try.call44 Try.func44 rfl rfl rfl ?_
  with_reducible repeat' (first | apply And.intro | exact flatI | exact flatS | exact rowLens | exact ih | (intro; skip) | apply obsN | apply obsC | apply obA | apply obM | apply obB | apply svA | apply tupA | apply lcA | apply lcS | apply svC | apply liC | apply lbC | apply lsC | apply vIc | apply vBc | apply vSc | apply vLc | apply mapC | apply c_toDatumS | apply ih)
  all_goals (try simp only [std] at *)
  all_goals (try (first | with_reducible rfl | omega | assumption | (refine (decide_eq_true ?_).symm; assumption) | (refine (decide_eq_false ?_).symm; assumption) | (refine rowGet ?_; (first | omega | (simp only [std]; omega) | grind)) | (refine getC ?_ rfl; (first | omega | (simp only [std]; omega) | grind)) | (refine fill_step ?_ ?_; (first | omega | (simp only [std]; omega) | grind); (first | rfl | exact (Row.eq _).trans rfl)) | (refine fill_init ?_; (first | rfl | exact (Row.eq _).trans rfl)) | grind [wD_eq, wS, snocI, snocS, rowSnoc]))
theorem c_toDatum (x : Datum) : ∀ (h : wD x ≤ 1048576), P_c_toDatum x := Datum.ind (P := fun x => ∀ (h : wD x ≤ 1048576), P_c_toDatum x) (fun x ih h => c_toDatum_s x h ih) x
abbrev P_c_toCoreS (L : List Core) : Prop := CallOK Try.prog 167 [] [ll (L.map coreC)] [.arr true 8 (L.map coreC)] (.sv (.one (.ref 0)))
abbrev P_c_toCore (x : Core) : Prop := CallOK Try.prog 60 [] [coreA x] (coreO x) (.sv (coreR x 0))
def Tc_toCoreSLa (L : List Core) (x0 : SV) (x1 : Ob) : St := St.mk (regsOf 23 [(0, AV.sv (ll (List.map coreC L))), (3, AV.sv (SV.one (AC.ref 0))), (4, AV.sv x0)]) [x1] 0 
def Lc_toCoreSLa (L : List Core) (k : Nat) : St := Tc_toCoreSLa L (li (↑k : Int)) (Ob.arr true 8 (List.map coreC (fillTo L k))) 
def Ic_toCoreSLa (L : List Core) : Nat → St → Prop := Head (Lc_toCoreSLa L) (fun k => k ≤ List.length L ∧ List.length L ≤ 9223372036854775807) fun k => List.length L - k 
def W0c_toCoreSLa (L : List Core) (x0 : Ob) : St := St.mk (regsOf 23 [(3, AV.sv (SV.one (AC.ref 0)))]) [x0] 0 
def Yc_toCoreSLa (L : List Core) : List (Prop × AEx × St) := [(True, AEx.exit 0, W0c_toCoreSLa L (Ob.arr true 8 (List.map coreC L)))]
theorem Hc_toCoreSLa {L : List Core} {k : Nat} {m : Nat} (h : (fun k => k ≤ List.length L ∧ List.length L ≤ 9223372036854775807) k) (hm : (fun k => List.length L - k) k = m) :
 Ic_toCoreSLa L m (Lc_toCoreSLa L k) := hm ▸ Head.mk h
theorem Ec_toCoreSLa {L : List Core} {k : Nat} {x0 : SV} {x1 : Ob} (h0 : x0 = (li (↑k : Int))) (h1 : x1 = (Ob.arr true 8 (List.map coreC (fillTo L k)))) : Tc_toCoreSLa L x0 x1 =
 Lc_toCoreSLa L k := by
  rw [h0, h1]
  rfl
theorem EW0c_toCoreSLa {L : List Core} {x0 y0 : Ob} (h0 : x0 = y0) : W0c_toCoreSLa L x0 = W0c_toCoreSLa L y0 := by rw [h0]
theorem run_c_toCoreSLa (L : List Core) (k : Nat) : aexec Try.prog (loopAt Try.f167 0) (Lc_toCoreSLa L k) [Orc.br [Orc.cells (coreF (List.getD L k default)), Orc.call [Mode.rd]
 (coreO (List.getD L k default)) (AV.sv (coreR (List.getD L k default) 0)), Orc.cells (coreF (List.getD (fillTo L k) (Int.toNat (↑k : Int)) default)), Orc.ghost (Ghost.sel [0] [0,
 3, 4]), Orc.goto (List.length L - (k + 1)) (Lc_toCoreSLa L (k + 1))] [Orc.ghost (Ghost.sel [0] [3]), Orc.out 0]] (loopK (Ic_toCoreSLa L) (Yc_toCoreSLa L) (List.length L - k)) =
 (List.length (List.map coreC L) ≤ 9223372036854775807 → (decide ((↑k : Int) < (↑(List.length (List.map coreC L)) : Int)) = true → (0 ≤ (↑k : Int) ∧ (List.map coreC L)[Int.toNat
 (↑k : Int)]? = some (coreF (List.getD L k default))) ∧ P_c_toCore (List.getD L k default) ∧ (0 ≤ (↑k : Int) ∧ Int.toNat (↑k : Int) < List.length (List.map coreC (fillTo L k))) ∧
 (List.map coreC (fillTo L k))[Int.toNat (↑k : Int)]? = some (coreF (List.getD (fillTo L k) (Int.toNat (↑k : Int)) default)) ∧ rng IntKind.i64 ((↑k : Int) + 1) ∧ List.length L - (k
 + 1) < List.length L - k ∧ Tc_toCoreSLa L (li ((↑k : Int) + 1)) (Ob.arr true 8 (List.set (List.map coreC (fillTo L k)) (Int.toNat (↑k : Int)) (coreF (List.getD L k default)))) =
 Lc_toCoreSLa L (k + 1) ∧ Ic_toCoreSLa L (List.length L - (k + 1)) (Lc_toCoreSLa L (k + 1))) ∧ (decide ((↑k : Int) < (↑(List.length (List.map coreC L)) : Int)) = false → True ∧
 W0c_toCoreSLa L (Ob.arr true 8 (List.map coreC (fillTo L k))) = W0c_toCoreSLa L (Ob.arr true 8 (List.map coreC L)))) := by kernel_rfl
theorem Sc_toCoreSLa (L : List Core) (h : List.length L + sumBy wC L ≤ 1048576) (ih : ∀ (x : Core), x ∈ L → wC x ≤ 1048576 → P_c_toCore x)  : LoopSem Try.prog (loopAt Try.f167 0)
 (Ic_toCoreSLa L) (Yc_toCoreSLa L) := by
  refine LoopSem.ofHead wide fun k h => ⟨_, _, run_c_toCoreSLa L k, ?_⟩
  with_reducible repeat' (first | apply And.intro | exact flatI | exact flatS | exact rowLens | exact ih | (intro; skip) | apply obsN | apply obsC | apply obA | apply obM | apply obB | apply svA | apply tupA | apply lcA | apply lcS | apply svC | apply liC | apply lbC | apply lsC | apply vIc | apply vBc | apply vSc | apply vLc | apply mapC | apply Hc_toCoreSLa | apply Ec_toCoreSLa | apply EW0c_toCoreSLa | apply ih)
  all_goals (try simp only [std] at *)
  all_goals (try (first | with_reducible rfl | omega | assumption | (refine (decide_eq_true ?_).symm; assumption) | (refine (decide_eq_false ?_).symm; assumption) | (refine rowGet ?_; (first | omega | (simp only [std]; omega) | grind)) | (refine getC ?_ rfl; (first | omega | (simp only [std]; omega) | grind)) | (refine fill_step ?_ ?_; (first | omega | (simp only [std]; omega) | grind); (first | rfl | exact (Row.eq _).trans rfl)) | (refine fill_init ?_; (first | rfl | exact (Row.eq _).trans rfl)) | grind [fillTo_all, getD_mem', sumBy_mem, snocI, snocS, rowSnoc]))
theorem run_c_toCoreS (L : List Core) : aexec Try.prog (Option.getD (Func.body Try.f167) Code.skip) (entry [] [ll (List.map coreC L)] 23) [Orc.ghost (Ghost.sel [0] [0, 3, 4]),
 Orc.loop (List.length L - 0) (Lc_toCoreSLa L 0) (Ic_toCoreSLa L) [(True, AEx.exit 0, W0c_toCoreSLa L (Ob.arr true 8 (List.map coreC L)), [Orc.fin [0]])]] (finK Try.prog
 [ResultVar.tmp 2] [Ob.arr true 8 (List.map coreC L)] (AV.sv (SV.one (AC.ref 0)))) = (List.length (List.map coreC L) ≤ 9223372036854775807 → (0 ≤ (↑(List.length (List.map coreC L))
 : Int) ∧ 120 * Int.toNat (↑(List.length (List.map coreC L)) : Int) ≤ 281474976710656) ∧ Tc_toCoreSLa L (li 0) (Ob.arr true 8 (List.replicate (Int.toNat (↑(List.length (List.map
 coreC L)) : Int)) [cI 0, cI 0, Cell.list [], cI 0, cI 0, cS (ByteArray.mk #[]), Cell.list [], Cell.list []])) = Lc_toCoreSLa L 0 ∧ Ic_toCoreSLa L (List.length L - 0) (Lc_toCoreSLa
 L 0) ∧ LoopSem Try.prog (loopAt Try.f167 0) (Ic_toCoreSLa L) (Yc_toCoreSLa L) ∧ (True → ObsEq [Ob.arr true 8 (List.map coreC L)] [Ob.arr true 8 (List.map coreC L)] ∧ AV.sv (SV.one
 (AC.ref 0)) = AV.sv (SV.one (AC.ref 0))) ∧ True) := by kernel_rfl
theorem c_toCoreS (L : List Core) (h : L.length + sumBy wC L ≤ 1048576) (ih : ∀ x ∈ L, ∀ (h : wC x ≤ 1048576), P_c_toCore x)  : P_c_toCoreS L := by
  refine CallOK.ofRun wide (run_c_toCoreS L) Try.call167 Try.func167 rfl rfl rfl ?_
  with_reducible repeat' (first | apply And.intro | exact flatI | exact flatS | exact rowLens | exact ih | (intro; skip) | apply obsN | apply obsC | apply obA | apply obM | apply obB | apply svA | apply tupA | apply lcA | apply lcS | apply svC | apply liC | apply lbC | apply lsC | apply vIc | apply vBc | apply vSc | apply vLc | apply mapC | apply Hc_toCoreSLa | apply Ec_toCoreSLa | apply Sc_toCoreSLa | apply EW0c_toCoreSLa)
  all_goals (try simp only [std] at *)
  all_goals (try (first | with_reducible rfl | omega | assumption | (refine (decide_eq_true ?_).symm; assumption) | (refine (decide_eq_false ?_).symm; assumption) | (refine rowGet ?_; (first | omega | (simp only [std]; omega) | grind)) | (refine getC ?_ rfl; (first | omega | (simp only [std]; omega) | grind)) | (refine fill_step ?_ ?_; (first | omega | (simp only [std]; omega) | grind); (first | rfl | exact (Row.eq _).trans rfl)) | (refine fill_init ?_; (first | rfl | exact (Row.eq _).trans rfl)) | grind [snocI, snocS, rowSnoc]))
theorem run_c_toCore_s (x : Core) : aexec Try.prog (Option.getD (Func.body Try.f60) Code.skip) (entry [] [coreA x] 23) [Orc.call [Mode.rd] [Ob.arr true 1 (List.map intC
 (Core.params x))] (AV.sv (SV.one (AC.ref 0))), Orc.call [Mode.rd] (datumO (Core.datum x)) (AV.sv (datumR (Core.datum x) 0)), Orc.call [Mode.rd] [Ob.arr true 8 (List.map coreC
 (Core.kids x))] (AV.sv (SV.one (AC.ref 0))), Orc.fin [3, 4, 5]] (finK Try.prog [ResultVar.cell 2 95] (coreO x) (AV.sv (coreR x 0))) = (P_c_toIntS (Core.params x) ∧ P_c_toDatum
 (Core.datum x) ∧ P_c_toCoreS (Core.kids x) ∧ ObsEq [Ob.arr true 1 (List.map intC (Core.params x)), Ob.arr true 4 (List.map datumC (Datum.items (Core.datum x))), Ob.arr true 8
 (List.map coreC (Core.kids x))] [Ob.arr true 1 (List.map intC (Core.params x)), Ob.arr true 4 (List.map datumC (Datum.items (Core.datum x))), Ob.arr true 8 (List.map coreC
 (Core.kids x))] ∧ AV.sv (SV.agg [vI (Core.kind x), vI (Core.number x), AC.ref 0, vI (Datum.kind (Core.datum x)), vI (Datum.number (Core.datum x)), vS (Datum.text (Core.datum x)),
 AC.ref 1, AC.ref 2]) = AV.sv (SV.agg [vI (Core.kind x), vI (Core.number x), AC.ref 0, vI (Datum.kind (Core.datum x)), vI (Datum.number (Core.datum x)), vS (Datum.text (Core.datum
 x)), AC.ref 1, AC.ref 2])) := by kernel_rfl
theorem c_toCore_s (x : Core) (h : wC x ≤ 1048576) (ih : ∀ z ∈ x.kids, ∀ (h : wC z ≤ 1048576), P_c_toCore z)  : P_c_toCore x := by
  refine CallOK.ofRun wide (run_c_toCore_s x) Try.call60 Try.func60 rfl rfl rfl ?_
  with_reducible repeat' (first | apply And.intro | exact flatI | exact flatS | exact rowLens | exact ih | (intro; skip) | apply obsN | apply obsC | apply obA | apply obM | apply obB | apply svA | apply tupA | apply lcA | apply lcS | apply svC | apply liC | apply lbC | apply lsC | apply vIc | apply vBc | apply vSc | apply vLc | apply mapC | apply c_toIntS | apply c_toDatum | apply c_toCoreS | apply ih)
  all_goals (try simp only [std] at *)
  all_goals (try (first | with_reducible rfl | omega | assumption | (refine (decide_eq_true ?_).symm; assumption) | (refine (decide_eq_false ?_).symm; assumption) | (refine rowGet ?_; (first | omega | (simp only [std]; omega) | grind)) | (refine getC ?_ rfl; (first | omega | (simp only [std]; omega) | grind)) | (refine fill_step ?_ ?_; (first | omega | (simp only [std]; omega) | grind); (first | rfl | exact (Row.eq _).trans rfl)) | (refine fill_init ?_; (first | rfl | exact (Row.eq _).trans rfl)) | grind [wC_eq, wS, snocI, snocS, rowSnoc]))
theorem c_toCore (x : Core) : ∀ (h : wC x ≤ 1048576), P_c_toCore x := Core.ind (P := fun x => ∀ (h : wC x ≤ 1048576), P_c_toCore x) (fun x ih h => c_toCore_s x h ih) x
end Go.Proofs.Ytehpjofddjmbpaa
end
section
namespace Go.Proofs.Ytehpjofddjmbpaa
open Go Go.Proofs.Ytehpjofddjmbpaa.Ab
set_option linter.unusedVariables false
set_option linter.unusedSimpArgs false
set_option maxHeartbeats 4000000
abbrev P_c_eqIntS (A : List Int) (B : List Int) : Prop := CallOK Try.prog 28 [] [ll (A.map intC), ll (B.map intC)] [] (.sv (lb (decide (A = B))))
def Tc_eqIntSLa (A : List Int) (B : List Int) (x0 : SV) : St := St.mk (regsOf 26 [(0, AV.sv (ll (List.map intC A))), (1, AV.sv (ll (List.map intC B))), (5, AV.sv x0)]) [] 0 
def Lc_eqIntSLa (A : List Int) (B : List Int) (k : Nat) : St := Tc_eqIntSLa A B (li (↑k : Int)) 
def Ic_eqIntSLa (A : List Int) (B : List Int) : Nat → St → Prop := Head (Lc_eqIntSLa A B) (fun k => k ≤ List.length A ∧ List.length A ≤ 9223372036854775807 ∧ List.length A =
 List.length B ∧ List.take k A = List.take k B) fun k => List.length A - k 
def W0c_eqIntSLa (A : List Int) (B : List Int) : St := St.mk (regsOf 26 []) [] 0 
def W1c_eqIntSLa (A : List Int) (B : List Int) (x0 : SV) : St := St.mk (regsOf 26 [(4, AV.sv x0)]) [] 0 
def Yc_eqIntSLa (A : List Int) (B : List Int) : List (Prop × AEx × St) := [(A = B, AEx.exit 0, W0c_eqIntSLa A B), (A ≠ B, AEx.ret, W1c_eqIntSLa A B (lb false))]
theorem Hc_eqIntSLa {A : List Int} {B : List Int} {k : Nat} {m : Nat} (h : (fun k => k ≤ List.length A ∧ List.length A ≤ 9223372036854775807 ∧ List.length A = List.length B ∧
 List.take k A = List.take k B) k) (hm : (fun k => List.length A - k) k = m) : Ic_eqIntSLa A B m (Lc_eqIntSLa A B k) := hm ▸ Head.mk h
theorem Ec_eqIntSLa {A : List Int} {B : List Int} {k : Nat} {x0 : SV} (h0 : x0 = (li (↑k : Int))) : Tc_eqIntSLa A B x0 = Lc_eqIntSLa A B k := by
  rw [h0]
  rfl
theorem EW1c_eqIntSLa {A : List Int} {B : List Int} {x0 y0 : SV} (h0 : x0 = y0) : W1c_eqIntSLa A B x0 = W1c_eqIntSLa A B y0 := by rw [h0]
theorem run_c_eqIntSLa (A : List Int) (B : List Int) (k : Nat) : aexec Try.prog (loopAt Try.f28 0) (Lc_eqIntSLa A B k) [Orc.br [Orc.draw [], Orc.cells (intC (List.getD A k
 default)), Orc.cells (intC (List.getD B k default)), Orc.br [Orc.ghost (Ghost.sel [] [4]), Orc.out 1] [Orc.ghost (Ghost.sel [] [0, 1, 5]), Orc.goto (List.length A - (k + 1))
 (Lc_eqIntSLa A B (k + 1))]] [Orc.ghost (Ghost.sel [] []), Orc.out 0]] (loopK (Ic_eqIntSLa A B) (Yc_eqIntSLa A B) (List.length A - k)) = (List.length (List.map intC A) ≤
 9223372036854775807 → (decide ((↑k : Int) < (↑(List.length (List.map intC A)) : Int)) = true → (0 ≤ (↑k : Int) ∧ (List.map intC A)[Int.toNat (↑k : Int)]? = some [cI (List.getD A k
 0)]) ∧ (0 ≤ (↑k : Int) ∧ (List.map intC B)[Int.toNat (↑k : Int)]? = some [cI (List.getD B k 0)]) ∧ (decide (List.getD A k (0 : Int) ≠ List.getD B k 0) = true → A ≠ B ∧
 W1c_eqIntSLa A B (lb false) = W1c_eqIntSLa A B (lb false)) ∧ (decide (List.getD A k (0 : Int) ≠ List.getD B k 0) = false → rng IntKind.i64 ((↑k : Int) + 1) ∧ List.length A - (k +
 1) < List.length A - k ∧ Tc_eqIntSLa A B (li ((↑k : Int) + 1)) = Lc_eqIntSLa A B (k + 1) ∧ Ic_eqIntSLa A B (List.length A - (k + 1)) (Lc_eqIntSLa A B (k + 1)))) ∧ (decide ((↑k :
 Int) < (↑(List.length (List.map intC A)) : Int)) = false → A = B ∧ W0c_eqIntSLa A B = W0c_eqIntSLa A B)) := by kernel_rfl
theorem Sc_eqIntSLa (A : List Int) (B : List Int)  : LoopSem Try.prog (loopAt Try.f28 0) (Ic_eqIntSLa A B) (Yc_eqIntSLa A B) := by
  refine LoopSem.ofHead wide fun k h => ⟨_, _, run_c_eqIntSLa A B k, ?_⟩
  with_reducible repeat' (first | apply And.intro | exact flatI | exact flatS | exact rowLens | (intro; skip) | apply obsN | apply obsC | apply obA | apply obM | apply obB | apply svA | apply tupA | apply lcA | apply lcS | apply svC | apply liC | apply lbC | apply lsC | apply vIc | apply vBc | apply vSc | apply vLc | apply mapC | apply Hc_eqIntSLa | apply Ec_eqIntSLa | apply EW1c_eqIntSLa)
  all_goals (try simp only [std] at *)
  all_goals (try (first | with_reducible rfl | omega | assumption | (refine (decide_eq_true ?_).symm; assumption) | (refine (decide_eq_false ?_).symm; assumption) | (refine rowGet ?_; (first | omega | (simp only [std]; omega) | grind)) | (refine getC ?_ rfl; (first | omega | (simp only [std]; omega) | grind)) | (refine fill_step ?_ ?_; (first | omega | (simp only [std]; omega) | grind); (first | rfl | exact (Row.eq _).trans rfl)) | (refine fill_init ?_; (first | rfl | exact (Row.eq _).trans rfl)) | grind [take_eq, snocI, snocS, rowSnoc]))
theorem run_c_eqIntS (A : List Int) (B : List Int) : aexec Try.prog (Option.getD (Func.body Try.f28) Code.skip) (entry [] [ll (List.map intC A), ll (List.map intC B)] 26) [Orc.br
 [Orc.fin []] [Orc.ghost (Ghost.sel [] [0, 1, 5]), Orc.loop (List.length A - 0) (Lc_eqIntSLa A B 0) (Ic_eqIntSLa A B) [(A = B, AEx.exit 0, W0c_eqIntSLa A B, [Orc.fin []]), (A ≠ B,
 AEx.ret, W1c_eqIntSLa A B (lb false), [Orc.fin []])]]] (finK Try.prog [ResultVar.tmp 4] [] (AV.sv (lb (decide (A = B))))) = (List.length (List.map intC A) ≤ 9223372036854775807 →
 List.length (List.map intC B) ≤ 9223372036854775807 → (decide ((↑(List.length (List.map intC A)) : Int) ≠ (↑(List.length (List.map intC B)) : Int)) = true → ObsEq [] [] ∧ AV.sv
 (lb false) = AV.sv (lb (decide (A = B)))) ∧ (decide ((↑(List.length (List.map intC A)) : Int) ≠ (↑(List.length (List.map intC B)) : Int)) = false → Tc_eqIntSLa A B (li 0) =
 Lc_eqIntSLa A B 0 ∧ Ic_eqIntSLa A B (List.length A - 0) (Lc_eqIntSLa A B 0) ∧ LoopSem Try.prog (loopAt Try.f28 0) (Ic_eqIntSLa A B) (Yc_eqIntSLa A B) ∧ (A = B → ObsEq [] [] ∧
 AV.sv (lb true) = AV.sv (lb (decide (A = B)))) ∧ ((A = B → False) → ObsEq [] [] ∧ AV.sv (lb false) = AV.sv (lb (decide (A = B)))) ∧ True)) := by kernel_rfl
theorem c_eqIntS (A B : List Int)  : P_c_eqIntS A B := by
  refine CallOK.ofRun wide (run_c_eqIntS A B) Try.call28 Try.func28 rfl rfl rfl ?_
  with_reducible repeat' (first | apply And.intro | exact flatI | exact flatS | exact rowLens | (intro; skip) | apply obsN | apply obsC | apply obA | apply obM | apply obB | apply svA | apply tupA | apply lcA | apply lcS | apply svC | apply liC | apply lbC | apply lsC | apply vIc | apply vBc | apply vSc | apply vLc | apply mapC | apply Hc_eqIntSLa | apply Ec_eqIntSLa | apply Sc_eqIntSLa | apply EW1c_eqIntSLa)
  all_goals (try simp only [std] at *)
  all_goals (try (first | with_reducible rfl | omega | assumption | (refine (decide_eq_true ?_).symm; assumption) | (refine (decide_eq_false ?_).symm; assumption) | (refine rowGet ?_; (first | omega | (simp only [std]; omega) | grind)) | (refine getC ?_ rfl; (first | omega | (simp only [std]; omega) | grind)) | (refine fill_step ?_ ?_; (first | omega | (simp only [std]; omega) | grind); (first | rfl | exact (Row.eq _).trans rfl)) | (refine fill_init ?_; (first | rfl | exact (Row.eq _).trans rfl)) | grind [snocI, snocS, rowSnoc]))
abbrev P_c_eqDatumS (A : List Datum) (B : List Datum) : Prop := CallOK Try.prog 131 [] [ll (A.map datumC), ll (B.map datumC)] [] (.sv (lb (decide (A = B))))
abbrev P_c_eqDatum (x : Datum) (y : Datum) : Prop := CallOK Try.prog 46 [] [datumA x, datumA y] [] (.sv (lb (decide (x = y))))
def Tc_eqDatumSLa (A : List Datum) (B : List Datum) (x0 : SV) : St := St.mk (regsOf 27 [(0, AV.sv (ll (List.map datumC A))), (1, AV.sv (ll (List.map datumC B))), (5, AV.sv x0)]) []
 0 
def Lc_eqDatumSLa (A : List Datum) (B : List Datum) (k : Nat) : St := Tc_eqDatumSLa A B (li (↑k : Int)) 
def Ic_eqDatumSLa (A : List Datum) (B : List Datum) : Nat → St → Prop := Head (Lc_eqDatumSLa A B) (fun k => k ≤ List.length A ∧ List.length A ≤ 9223372036854775807 ∧ List.length A
 = List.length B ∧ List.take k A = List.take k B) fun k => List.length A - k 
def W0c_eqDatumSLa (A : List Datum) (B : List Datum) : St := St.mk (regsOf 27 []) [] 0 
def W1c_eqDatumSLa (A : List Datum) (B : List Datum) (x0 : SV) : St := St.mk (regsOf 27 [(4, AV.sv x0)]) [] 0 
def Yc_eqDatumSLa (A : List Datum) (B : List Datum) : List (Prop × AEx × St) := [(A = B, AEx.exit 0, W0c_eqDatumSLa A B), (A ≠ B, AEx.ret, W1c_eqDatumSLa A B (lb false))]
theorem Hc_eqDatumSLa {A : List Datum} {B : List Datum} {k : Nat} {m : Nat} (h : (fun k => k ≤ List.length A ∧ List.length A ≤ 9223372036854775807 ∧ List.length A = List.length B ∧
 List.take k A = List.take k B) k) (hm : (fun k => List.length A - k) k = m) : Ic_eqDatumSLa A B m (Lc_eqDatumSLa A B k) := hm ▸ Head.mk h
theorem Ec_eqDatumSLa {A : List Datum} {B : List Datum} {k : Nat} {x0 : SV} (h0 : x0 = (li (↑k : Int))) : Tc_eqDatumSLa A B x0 = Lc_eqDatumSLa A B k := by
  rw [h0]
  rfl
theorem EW1c_eqDatumSLa {A : List Datum} {B : List Datum} {x0 y0 : SV} (h0 : x0 = y0) : W1c_eqDatumSLa A B x0 = W1c_eqDatumSLa A B y0 := by rw [h0]
theorem run_c_eqDatumSLa (A : List Datum) (B : List Datum) (k : Nat) : aexec Try.prog (loopAt Try.f131 0) (Lc_eqDatumSLa A B k) [Orc.br [Orc.draw [], Orc.cells (datumF (List.getD A
 k default)), Orc.cells (datumF (List.getD B k default)), Orc.call [Mode.rd, Mode.rd] [] (AV.sv (lb (decide (List.getD A k default = List.getD B k default)))), Orc.br [Orc.ghost
 (Ghost.sel [] [4]), Orc.out 1] [Orc.ghost (Ghost.sel [] [0, 1, 5]), Orc.goto (List.length A - (k + 1)) (Lc_eqDatumSLa A B (k + 1))]] [Orc.ghost (Ghost.sel [] []), Orc.out 0]]
 (loopK (Ic_eqDatumSLa A B) (Yc_eqDatumSLa A B) (List.length A - k)) = (List.length (List.map datumC A) ≤ 9223372036854775807 → (decide ((↑k : Int) < (↑(List.length (List.map
 datumC A)) : Int)) = true → (0 ≤ (↑k : Int) ∧ (List.map datumC A)[Int.toNat (↑k : Int)]? = some (datumF (List.getD A k default))) ∧ (0 ≤ (↑k : Int) ∧ (List.map datumC B)[Int.toNat
 (↑k : Int)]? = some (datumF (List.getD B k default))) ∧ P_c_eqDatum (List.getD A k default) (List.getD B k default) ∧ ((!decide (List.getD A k default = List.getD B k default)) =
 true → A ≠ B ∧ W1c_eqDatumSLa A B (lb false) = W1c_eqDatumSLa A B (lb false)) ∧ ((!decide (List.getD A k default = List.getD B k default)) = false → rng IntKind.i64 ((↑k : Int) +
 1) ∧ List.length A - (k + 1) < List.length A - k ∧ Tc_eqDatumSLa A B (li ((↑k : Int) + 1)) = Lc_eqDatumSLa A B (k + 1) ∧ Ic_eqDatumSLa A B (List.length A - (k + 1)) (Lc_eqDatumSLa
 A B (k + 1)))) ∧ (decide ((↑k : Int) < (↑(List.length (List.map datumC A)) : Int)) = false → A = B ∧ W0c_eqDatumSLa A B = W0c_eqDatumSLa A B)) := by kernel_rfl
theorem Sc_eqDatumSLa (A : List Datum) (B : List Datum) (ih : ∀ (x : Datum), x ∈ A → ∀ (y : Datum), P_c_eqDatum x y)  : LoopSem Try.prog (loopAt Try.f131 0) (Ic_eqDatumSLa A B)
 (Yc_eqDatumSLa A B) := by
  refine LoopSem.ofHead wide fun k h => ⟨_, _, run_c_eqDatumSLa A B k, ?_⟩
  with_reducible repeat' (first | apply And.intro | exact flatI | exact flatS | exact rowLens | exact ih | (intro; skip) | apply obsN | apply obsC | apply obA | apply obM | apply obB | apply svA | apply tupA | apply lcA | apply lcS | apply svC | apply liC | apply lbC | apply lsC | apply vIc | apply vBc | apply vSc | apply vLc | apply mapC | apply Hc_eqDatumSLa | apply Ec_eqDatumSLa | apply EW1c_eqDatumSLa | apply ih)
  all_goals (try simp only [std] at *)
  all_goals (try (first | with_reducible rfl | omega | assumption | (refine (decide_eq_true ?_).symm; assumption) | (refine (decide_eq_false ?_).symm; assumption) | (refine rowGet ?_; (first | omega | (simp only [std]; omega) | grind)) | (refine getC ?_ rfl; (first | omega | (simp only [std]; omega) | grind)) | (refine fill_step ?_ ?_; (first | omega | (simp only [std]; omega) | grind); (first | rfl | exact (Row.eq _).trans rfl)) | (refine fill_init ?_; (first | rfl | exact (Row.eq _).trans rfl)) | grind [take_eq, getD_mem', snocI, snocS, rowSnoc]))
theorem run_c_eqDatumS (A : List Datum) (B : List Datum) : aexec Try.prog (Option.getD (Func.body Try.f131) Code.skip) (entry [] [ll (List.map datumC A), ll (List.map datumC B)]
 27) [Orc.br [Orc.fin []] [Orc.ghost (Ghost.sel [] [0, 1, 5]), Orc.loop (List.length A - 0) (Lc_eqDatumSLa A B 0) (Ic_eqDatumSLa A B) [(A = B, AEx.exit 0, W0c_eqDatumSLa A B,
 [Orc.fin []]), (A ≠ B, AEx.ret, W1c_eqDatumSLa A B (lb false), [Orc.fin []])]]] (finK Try.prog [ResultVar.tmp 4] [] (AV.sv (lb (decide (A = B))))) = (List.length (List.map datumC
 A) ≤ 9223372036854775807 → List.length (List.map datumC B) ≤ 9223372036854775807 → (decide ((↑(List.length (List.map datumC A)) : Int) ≠ (↑(List.length (List.map datumC B)) :
 Int)) = true → ObsEq [] [] ∧ AV.sv (lb false) = AV.sv (lb (decide (A = B)))) ∧ (decide ((↑(List.length (List.map datumC A)) : Int) ≠ (↑(List.length (List.map datumC B)) : Int)) =
 false → Tc_eqDatumSLa A B (li 0) = Lc_eqDatumSLa A B 0 ∧ Ic_eqDatumSLa A B (List.length A - 0) (Lc_eqDatumSLa A B 0) ∧ LoopSem Try.prog (loopAt Try.f131 0) (Ic_eqDatumSLa A B)
 (Yc_eqDatumSLa A B) ∧ (A = B → ObsEq [] [] ∧ AV.sv (lb true) = AV.sv (lb (decide (A = B)))) ∧ ((A = B → False) → ObsEq [] [] ∧ AV.sv (lb false) = AV.sv (lb (decide (A = B)))) ∧
 True)) := by kernel_rfl
theorem c_eqDatumS (A B : List Datum) (ih : ∀ x ∈ A, ∀ (y : Datum), P_c_eqDatum x y)  : P_c_eqDatumS A B := by
  refine CallOK.ofRun wide (run_c_eqDatumS A B) Try.call131 Try.func131 rfl rfl rfl ?_
  with_reducible repeat' (first | apply And.intro | exact flatI | exact flatS | exact rowLens | exact ih | (intro; skip) | apply obsN | apply obsC | apply obA | apply obM | apply obB | apply svA | apply tupA | apply lcA | apply lcS | apply svC | apply liC | apply lbC | apply lsC | apply vIc | apply vBc | apply vSc | apply vLc | apply mapC | apply Hc_eqDatumSLa | apply Ec_eqDatumSLa | apply Sc_eqDatumSLa | apply EW1c_eqDatumSLa)
  all_goals (try simp only [std] at *)
  all_goals (try (first | with_reducible rfl | omega | assumption | (refine (decide_eq_true ?_).symm; assumption) | (refine (decide_eq_false ?_).symm; assumption) | (refine rowGet ?_; (first | omega | (simp only [std]; omega) | grind)) | (refine getC ?_ rfl; (first | omega | (simp only [std]; omega) | grind)) | (refine fill_step ?_ ?_; (first | omega | (simp only [std]; omega) | grind); (first | rfl | exact (Row.eq _).trans rfl)) | (refine fill_init ?_; (first | rfl | exact (Row.eq _).trans rfl)) | grind [snocI, snocS, rowSnoc]))
theorem run_c_eqDatum_s (x : Datum) (y : Datum) : aexec Try.prog (Option.getD (Func.body Try.f46) Code.skip) (entry [] [datumA x, datumA y] 26) [Orc.br [Orc.fin []] [Orc.br
 [Orc.fin []] [Orc.br [Orc.fin []] [Orc.call [Mode.rd, Mode.rd] [] (AV.sv (lb (decide (Datum.items x = Datum.items y)))), Orc.br [Orc.fin []] [Orc.fin []]]]]] (finK Try.prog
 [ResultVar.tmp 4] [] (AV.sv (lb (decide (x = y))))) = ((decide (Datum.kind x ≠ Datum.kind y) = true → ObsEq [] [] ∧ AV.sv (lb false) = AV.sv (lb (decide (x = y)))) ∧ (decide
 (Datum.kind x ≠ Datum.kind y) = false → (decide (Datum.number x ≠ Datum.number y) = true → ObsEq [] [] ∧ AV.sv (lb false) = AV.sv (lb (decide (x = y)))) ∧ (decide (Datum.number x
 ≠ Datum.number y) = false → (decide (Array.toList (ByteArray.data (Datum.text x)) ≠ Array.toList (ByteArray.data (Datum.text y))) = true → ObsEq [] [] ∧ AV.sv (lb false) = AV.sv
 (lb (decide (x = y)))) ∧ (decide (Array.toList (ByteArray.data (Datum.text x)) ≠ Array.toList (ByteArray.data (Datum.text y))) = false → P_c_eqDatumS (Datum.items x) (Datum.items
 y) ∧ ((!decide (Datum.items x = Datum.items y)) = true → ObsEq [] [] ∧ AV.sv (lb false) = AV.sv (lb (decide (x = y)))) ∧ ((!decide (Datum.items x = Datum.items y)) = false → ObsEq
 [] [] ∧ AV.sv (lb true) = AV.sv (lb (decide (x = y)))))))) := by kernel_rfl
theorem c_eqDatum_s (x y : Datum) (ih : ∀ z ∈ x.items, ∀ (y : Datum), P_c_eqDatum z y)  : P_c_eqDatum x y := by
  refine CallOK.ofRun wide (run_c_eqDatum_s x y) Try.call46 Try.func46 rfl rfl rfl ?_
  simp only [datumExt]
  with_reducible repeat' (first | apply And.intro | exact flatI | exact flatS | exact rowLens | exact ih | (intro; skip) | apply obsN | apply obsC | apply obA | apply obM | apply obB | apply svA | apply tupA | apply lcA | apply lcS | apply svC | apply liC | apply lbC | apply lsC | apply vIc | apply vBc | apply vSc | apply vLc | apply mapC | apply c_eqDatumS | apply ih)
  all_goals (try simp only [std] at *)
  all_goals (try (first | with_reducible rfl | omega | assumption | (refine (decide_eq_true ?_).symm; assumption) | (refine (decide_eq_false ?_).symm; assumption) | (refine rowGet ?_; (first | omega | (simp only [std]; omega) | grind)) | (refine getC ?_ rfl; (first | omega | (simp only [std]; omega) | grind)) | (refine fill_step ?_ ?_; (first | omega | (simp only [std]; omega) | grind); (first | rfl | exact (Row.eq _).trans rfl)) | (refine fill_init ?_; (first | rfl | exact (Row.eq _).trans rfl)) | grind [bytes_ext, snocI, snocS, rowSnoc]))
theorem c_eqDatum (x : Datum) : ∀ (y : Datum), P_c_eqDatum x y := Datum.ind (P := fun x => ∀ (y : Datum), P_c_eqDatum x y) (fun x ih y => c_eqDatum_s x y ih) x
abbrev P_c_eqCoreS (A : List Core) (B : List Core) : Prop := CallOK Try.prog 171 [] [ll (A.map coreC), ll (B.map coreC)] [] (.sv (lb (decide (A = B))))
abbrev P_c_eqCore (x : Core) (y : Core) : Prop := CallOK Try.prog 63 [] [coreA x, coreA y] [] (.sv (lb (decide (x = y))))
def Tc_eqCoreSLa (A : List Core) (B : List Core) (x0 : SV) : St := St.mk (regsOf 27 [(0, AV.sv (ll (List.map coreC A))), (1, AV.sv (ll (List.map coreC B))), (5, AV.sv x0)]) [] 0 
def Lc_eqCoreSLa (A : List Core) (B : List Core) (k : Nat) : St := Tc_eqCoreSLa A B (li (↑k : Int)) 
def Ic_eqCoreSLa (A : List Core) (B : List Core) : Nat → St → Prop := Head (Lc_eqCoreSLa A B) (fun k => k ≤ List.length A ∧ List.length A ≤ 9223372036854775807 ∧ List.length A =
 List.length B ∧ List.take k A = List.take k B) fun k => List.length A - k 
def W0c_eqCoreSLa (A : List Core) (B : List Core) : St := St.mk (regsOf 27 []) [] 0 
def W1c_eqCoreSLa (A : List Core) (B : List Core) (x0 : SV) : St := St.mk (regsOf 27 [(4, AV.sv x0)]) [] 0 
def Yc_eqCoreSLa (A : List Core) (B : List Core) : List (Prop × AEx × St) := [(A = B, AEx.exit 0, W0c_eqCoreSLa A B), (A ≠ B, AEx.ret, W1c_eqCoreSLa A B (lb false))]
theorem Hc_eqCoreSLa {A : List Core} {B : List Core} {k : Nat} {m : Nat} (h : (fun k => k ≤ List.length A ∧ List.length A ≤ 9223372036854775807 ∧ List.length A = List.length B ∧
 List.take k A = List.take k B) k) (hm : (fun k => List.length A - k) k = m) : Ic_eqCoreSLa A B m (Lc_eqCoreSLa A B k) := hm ▸ Head.mk h
theorem Ec_eqCoreSLa {A : List Core} {B : List Core} {k : Nat} {x0 : SV} (h0 : x0 = (li (↑k : Int))) : Tc_eqCoreSLa A B x0 = Lc_eqCoreSLa A B k := by
  rw [h0]
  rfl
theorem EW1c_eqCoreSLa {A : List Core} {B : List Core} {x0 y0 : SV} (h0 : x0 = y0) : W1c_eqCoreSLa A B x0 = W1c_eqCoreSLa A B y0 := by rw [h0]
theorem run_c_eqCoreSLa (A : List Core) (B : List Core) (k : Nat) : aexec Try.prog (loopAt Try.f171 0) (Lc_eqCoreSLa A B k) [Orc.br [Orc.draw [], Orc.cells (coreF (List.getD A k
 default)), Orc.cells (coreF (List.getD B k default)), Orc.call [Mode.rd, Mode.rd] [] (AV.sv (lb (decide (List.getD A k default = List.getD B k default)))), Orc.br [Orc.ghost
 (Ghost.sel [] [4]), Orc.out 1] [Orc.ghost (Ghost.sel [] [0, 1, 5]), Orc.goto (List.length A - (k + 1)) (Lc_eqCoreSLa A B (k + 1))]] [Orc.ghost (Ghost.sel [] []), Orc.out 0]]
 (loopK (Ic_eqCoreSLa A B) (Yc_eqCoreSLa A B) (List.length A - k)) = (List.length (List.map coreC A) ≤ 9223372036854775807 → (decide ((↑k : Int) < (↑(List.length (List.map coreC
 A)) : Int)) = true → (0 ≤ (↑k : Int) ∧ (List.map coreC A)[Int.toNat (↑k : Int)]? = some (coreF (List.getD A k default))) ∧ (0 ≤ (↑k : Int) ∧ (List.map coreC B)[Int.toNat (↑k :
 Int)]? = some (coreF (List.getD B k default))) ∧ P_c_eqCore (List.getD A k default) (List.getD B k default) ∧ ((!decide (List.getD A k default = List.getD B k default)) = true → A
 ≠ B ∧ W1c_eqCoreSLa A B (lb false) = W1c_eqCoreSLa A B (lb false)) ∧ ((!decide (List.getD A k default = List.getD B k default)) = false → rng IntKind.i64 ((↑k : Int) + 1) ∧
 List.length A - (k + 1) < List.length A - k ∧ Tc_eqCoreSLa A B (li ((↑k : Int) + 1)) = Lc_eqCoreSLa A B (k + 1) ∧ Ic_eqCoreSLa A B (List.length A - (k + 1)) (Lc_eqCoreSLa A B (k +
 1)))) ∧ (decide ((↑k : Int) < (↑(List.length (List.map coreC A)) : Int)) = false → A = B ∧ W0c_eqCoreSLa A B = W0c_eqCoreSLa A B)) := by kernel_rfl
theorem Sc_eqCoreSLa (A : List Core) (B : List Core) (ih : ∀ (x : Core), x ∈ A → ∀ (y : Core), P_c_eqCore x y)  : LoopSem Try.prog (loopAt Try.f171 0) (Ic_eqCoreSLa A B)
 (Yc_eqCoreSLa A B) := by
  refine LoopSem.ofHead wide fun k h => ⟨_, _, run_c_eqCoreSLa A B k, ?_⟩
  with_reducible repeat' (first | apply And.intro | exact flatI | exact flatS | exact rowLens | exact ih | (intro; skip) | apply obsN | apply obsC | apply obA | apply obM | apply obB | apply svA | apply tupA | apply lcA | apply lcS | apply svC | apply liC | apply lbC | apply lsC | apply vIc | apply vBc | apply vSc | apply vLc | apply mapC | apply Hc_eqCoreSLa | apply Ec_eqCoreSLa | apply EW1c_eqCoreSLa | apply ih)
  all_goals (try simp only [std] at *)
  all_goals (try (first | with_reducible rfl | omega | assumption | (refine (decide_eq_true ?_).symm; assumption) | (refine (decide_eq_false ?_).symm; assumption) | (refine rowGet ?_; (first | omega | (simp only [std]; omega) | grind)) | (refine getC ?_ rfl; (first | omega | (simp only [std]; omega) | grind)) | (refine fill_step ?_ ?_; (first | omega | (simp only [std]; omega) | grind); (first | rfl | exact (Row.eq _).trans rfl)) | (refine fill_init ?_; (first | rfl | exact (Row.eq _).trans rfl)) | grind [take_eq, getD_mem', snocI, snocS, rowSnoc]))
theorem run_c_eqCoreS (A : List Core) (B : List Core) : aexec Try.prog (Option.getD (Func.body Try.f171) Code.skip) (entry [] [ll (List.map coreC A), ll (List.map coreC B)] 27)
 [Orc.br [Orc.fin []] [Orc.ghost (Ghost.sel [] [0, 1, 5]), Orc.loop (List.length A - 0) (Lc_eqCoreSLa A B 0) (Ic_eqCoreSLa A B) [(A = B, AEx.exit 0, W0c_eqCoreSLa A B, [Orc.fin
 []]), (A ≠ B, AEx.ret, W1c_eqCoreSLa A B (lb false), [Orc.fin []])]]] (finK Try.prog [ResultVar.tmp 4] [] (AV.sv (lb (decide (A = B))))) = (List.length (List.map coreC A) ≤
 9223372036854775807 → List.length (List.map coreC B) ≤ 9223372036854775807 → (decide ((↑(List.length (List.map coreC A)) : Int) ≠ (↑(List.length (List.map coreC B)) : Int)) = true
 → ObsEq [] [] ∧ AV.sv (lb false) = AV.sv (lb (decide (A = B)))) ∧ (decide ((↑(List.length (List.map coreC A)) : Int) ≠ (↑(List.length (List.map coreC B)) : Int)) = false →
 Tc_eqCoreSLa A B (li 0) = Lc_eqCoreSLa A B 0 ∧ Ic_eqCoreSLa A B (List.length A - 0) (Lc_eqCoreSLa A B 0) ∧ LoopSem Try.prog (loopAt Try.f171 0) (Ic_eqCoreSLa A B) (Yc_eqCoreSLa A
 B) ∧ (A = B → ObsEq [] [] ∧ AV.sv (lb true) = AV.sv (lb (decide (A = B)))) ∧ ((A = B → False) → ObsEq [] [] ∧ AV.sv (lb false) = AV.sv (lb (decide (A = B)))) ∧ True)) := by
 kernel_rfl
theorem c_eqCoreS (A B : List Core) (ih : ∀ x ∈ A, ∀ (y : Core), P_c_eqCore x y)  : P_c_eqCoreS A B := by
  refine CallOK.ofRun wide (run_c_eqCoreS A B) Try.call171 Try.func171 rfl rfl rfl ?_
  with_reducible repeat' (first | apply And.intro | exact flatI | exact flatS | exact rowLens | exact ih | (intro; skip) | apply obsN | apply obsC | apply obA | apply obM | apply obB | apply svA | apply tupA | apply lcA | apply lcS | apply svC | apply liC | apply lbC | apply lsC | apply vIc | apply vBc | apply vSc | apply vLc | apply mapC | apply Hc_eqCoreSLa | apply Ec_eqCoreSLa | apply Sc_eqCoreSLa | apply EW1c_eqCoreSLa)
  all_goals (try simp only [std] at *)
  all_goals (try (first | with_reducible rfl | omega | assumption | (refine (decide_eq_true ?_).symm; assumption) | (refine (decide_eq_false ?_).symm; assumption) | (refine rowGet ?_; (first | omega | (simp only [std]; omega) | grind)) | (refine getC ?_ rfl; (first | omega | (simp only [std]; omega) | grind)) | (refine fill_step ?_ ?_; (first | omega | (simp only [std]; omega) | grind); (first | rfl | exact (Row.eq _).trans rfl)) | (refine fill_init ?_; (first | rfl | exact (Row.eq _).trans rfl)) | grind [snocI, snocS, rowSnoc]))
theorem run_c_eqCore_s (x : Core) (y : Core) : aexec Try.prog (Option.getD (Func.body Try.f63) Code.skip) (entry [] [coreA x, coreA y] 33) [Orc.br [Orc.fin []] [Orc.br [Orc.fin []]
 [Orc.call [Mode.rd, Mode.rd] [] (AV.sv (lb (decide (Core.params x = Core.params y)))), Orc.br [Orc.fin []] [Orc.call [Mode.rd, Mode.rd] [] (AV.sv (lb (decide (Core.datum x =
 Core.datum y)))), Orc.br [Orc.fin []] [Orc.call [Mode.rd, Mode.rd] [] (AV.sv (lb (decide (Core.kids x = Core.kids y)))), Orc.br [Orc.fin []] [Orc.fin []]]]]]] (finK Try.prog
 [ResultVar.tmp 4] [] (AV.sv (lb (decide (x = y))))) = ((decide (Core.kind x ≠ Core.kind y) = true → ObsEq [] [] ∧ AV.sv (lb false) = AV.sv (lb (decide (x = y)))) ∧ (decide
 (Core.kind x ≠ Core.kind y) = false → (decide (Core.number x ≠ Core.number y) = true → ObsEq [] [] ∧ AV.sv (lb false) = AV.sv (lb (decide (x = y)))) ∧ (decide (Core.number x ≠
 Core.number y) = false → P_c_eqIntS (Core.params x) (Core.params y) ∧ ((!decide (Core.params x = Core.params y)) = true → ObsEq [] [] ∧ AV.sv (lb false) = AV.sv (lb (decide (x =
 y)))) ∧ ((!decide (Core.params x = Core.params y)) = false → P_c_eqDatum (Core.datum x) (Core.datum y) ∧ ((!decide (Core.datum x = Core.datum y)) = true → ObsEq [] [] ∧ AV.sv (lb
 false) = AV.sv (lb (decide (x = y)))) ∧ ((!decide (Core.datum x = Core.datum y)) = false → P_c_eqCoreS (Core.kids x) (Core.kids y) ∧ ((!decide (Core.kids x = Core.kids y)) = true
 → ObsEq [] [] ∧ AV.sv (lb false) = AV.sv (lb (decide (x = y)))) ∧ ((!decide (Core.kids x = Core.kids y)) = false → ObsEq [] [] ∧ AV.sv (lb true) = AV.sv (lb (decide (x =
 y))))))))) := by kernel_rfl
theorem c_eqCore_s (x y : Core) (ih : ∀ z ∈ x.kids, ∀ (y : Core), P_c_eqCore z y)  : P_c_eqCore x y := by
  refine CallOK.ofRun wide (run_c_eqCore_s x y) Try.call63 Try.func63 rfl rfl rfl ?_
  simp only [coreExt]
  with_reducible repeat' (first | apply And.intro | exact flatI | exact flatS | exact rowLens | exact ih | (intro; skip) | apply obsN | apply obsC | apply obA | apply obM | apply obB | apply svA | apply tupA | apply lcA | apply lcS | apply svC | apply liC | apply lbC | apply lsC | apply vIc | apply vBc | apply vSc | apply vLc | apply mapC | apply c_eqIntS | apply c_eqDatum | apply c_eqCoreS | apply ih)
  all_goals (try simp only [std] at *)
  all_goals (try (first | with_reducible rfl | omega | assumption | (refine (decide_eq_true ?_).symm; assumption) | (refine (decide_eq_false ?_).symm; assumption) | (refine rowGet ?_; (first | omega | (simp only [std]; omega) | grind)) | (refine getC ?_ rfl; (first | omega | (simp only [std]; omega) | grind)) | (refine fill_step ?_ ?_; (first | omega | (simp only [std]; omega) | grind); (first | rfl | exact (Row.eq _).trans rfl)) | (refine fill_init ?_; (first | rfl | exact (Row.eq _).trans rfl)) | grind [bytes_ext, snocI, snocS, rowSnoc]))
theorem c_eqCore (x : Core) : ∀ (y : Core), P_c_eqCore x y := Core.ind (P := fun x => ∀ (y : Core), P_c_eqCore x y) (fun x ih y => c_eqCore_s x y ih) x
end Go.Proofs.Ytehpjofddjmbpaa
end
section
namespace Go.Proofs.Ytehpjofddjmbpaa
open Go Go.Proofs.Ytehpjofddjmbpaa.Ab
set_option linter.unusedVariables false
set_option linter.unusedSimpArgs false
set_option maxHeartbeats 4000000
theorem sumBy_map {α : Type} (w : α → Nat) (g : α → α) : ∀ L : List α, (∀ x ∈ L, w (g x) = w x) → sumBy w (L.map g) = sumBy w L
  | [], _ => rfl
  | x :: r, h => by simp only [List.map_cons, sumBy, h x List.mem_cons_self, sumBy_map w g r fun y hy => h y (List.mem_cons_of_mem _ hy)]
theorem wC_ren (f : Int → Option Int) : ∀ c : Core, wC (ren f c) = wC c := by
  refine Core.ind fun c ih => ?_
  rw [ren_eq, wC_eq, wC_eq c]
  simp only [List.length_map, sumBy_map wC (ren f) c.kids ih]
theorem wC_rn (c : Core) (a : Int) : wC (rnC c a) = wC c := by
  unfold rnC; split
  · exact wC_ren _ c
  · rfl
abbrev P_c_LRen (c : Core) (a : Int) : Prop := CallOK Try.prog 18 [] [coreA c, li a] [] (.sv (lb true))
abbrev a3_c_LRen (c : Core) (a : Int) := (seqM mkD cD (Datum.items (Core.datum (rnC c a))) (1 + (↑(List.length (Core.params (rnC c a))) : Int)))
abbrev a2_c_LRen (c : Core) (a : Int) := (seqM mkC cC (Core.kids (rnC c a)) (1 + (↑(List.length (Core.params (rnC c a))) : Int) + (↑(sumBy cD (Datum.items (Core.datum (rnC c a))))
 : Int)))
abbrev a1_c_LRen (c : Core) (a : Int) := (1 + (↑(List.length (seqM mkI cOne (Core.params (rnC c a)) 1)) : Int) + (↑(sumBy cD (a3_c_LRen c a)) : Int) + (↑(sumBy cC (a2_c_LRen c a))
 : Int) ≠ 1 + (↑(List.length (Core.params (rnC c a))) : Int) + (↑(sumBy cD (Datum.items (Core.datum (rnC c a)))) : Int) + (↑(sumBy cC (Core.kids (rnC c a))) : Int))
abbrev a4_c_LRen (c : Core) (a : Int) := (Core.mk (Core.kind (rnC c a)) (Core.number (rnC c a)) (seqM mkI cOne (Core.params (rnC c a)) 1) (Datum.mk (Datum.kind (Core.datum (rnC c
 a))) (Datum.number (Core.datum (rnC c a))) (Datum.text (Core.datum (rnC c a))) (a3_c_LRen c a)) (a2_c_LRen c a))
theorem run_c_LRen (c : Core) (a : Int) : aexec Try.prog (Option.getD (Func.body Try.f18) Code.skip) (entry [] [coreA c, li a] 101) [Orc.call [Mode.rd, Mode.rd] [] (AV.sv (li (sz
 (wC c) 1048576))), Orc.br [Orc.fin []] [Orc.call [Mode.rd] (coreO c) (AV.sv (coreR c 0)), Orc.call [Mode.rd, Mode.rd] (coreO (rnC c a)) (AV.tup [coreR (rnC c a) 0, li (rnF c a)]),
 Orc.call [Mode.rd] (coreO c) (AV.sv (coreR c 0)), Orc.call [Mode.rd, Mode.rd] (coreO (rnC c a)) (AV.tup [coreR (rnC c a) 0, li (rnF c a)]), Orc.call [Mode.rd, Mode.rd] [] (AV.sv
 (lb (decide (rnC c a = rnC c a)))), Orc.br [Orc.bool true, Orc.fin []] [Orc.br [Orc.fin []] [Orc.draw [], Orc.call [Mode.rd] (coreO c) (AV.sv (coreR c 0)), Orc.call [Mode.rd,
 Mode.rd] [] (AV.sv (lb (decide (c = c)))), Orc.br [Orc.fin []] [Orc.call [Mode.agg [none, none, some (true, 1), none, none, none, some (true, 4), some (true, 8)], Mode.rd] [Ob.arr
 true 1 (List.map intC (seqM mkI cOne (Core.params c) 1)), Ob.arr true 4 (List.map datumC (seqM mkD cD (Datum.items (Core.datum c)) (1 + (↑(List.length (Core.params c)) : Int)))),
 Ob.arr true 8 (List.map coreC (seqM mkC cC (Core.kids c) (1 + (↑(List.length (Core.params c)) : Int) + (↑(sumBy cD (Datum.items (Core.datum c))) : Int))))] (AV.sv (li (1 +
 (↑(List.length (Core.params c)) : Int) + (↑(sumBy cD (Datum.items (Core.datum c))) : Int) + (↑(sumBy cC (Core.kids c)) : Int)))), Orc.bool false, Orc.call [Mode.rd, Mode.rd] []
 (AV.sv (lb (decide (rnC c a = rnC c a)))), Orc.br [Orc.bool true, Orc.fin []] [Orc.br [Orc.fin []] [Orc.call [Mode.agg [none, none, some (true, 1), none, none, none, some (true,
 4), some (true, 8)], Mode.rd] [Ob.arr true 1 (List.map intC (seqM mkI cOne (Core.params (rnC c a)) 1)), Ob.arr true 4 (List.map datumC (a3_c_LRen c a)), Ob.arr true 8 (List.map
 coreC (a2_c_LRen c a))] (AV.sv (li (1 + (↑(List.length (Core.params (rnC c a))) : Int) + (↑(sumBy cD (Datum.items (Core.datum (rnC c a)))) : Int) + (↑(sumBy cC (Core.kids (rnC c
 a))) : Int)))), Orc.call [Mode.rd, Mode.rd] [] (AV.sv (li (1 + (↑(List.length (seqM mkI cOne (Core.params (rnC c a)) 1)) : Int) + (↑(sumBy cD (a3_c_LRen c a)) : Int) + (↑(sumBy cC
 (a2_c_LRen c a)) : Int)))), Orc.bool false, Orc.br [Orc.fin []] [Orc.call [Mode.rd] (coreO c) (AV.sv (coreR c 0)), Orc.call [Mode.rd, Mode.rd] (coreO (rnC c a)) (AV.tup [coreR
 (rnC c a) 0, li (rnF c a)]), Orc.call [Mode.rd, Mode.rd] [] (AV.sv (lb (decide (rnC c a = rnC c a)))), Orc.br [Orc.bool true, Orc.fin []] [Orc.br [Orc.fin []] [Orc.call [Mode.rd,
 Mode.rd] [] (AV.sv (li (1 + (↑(List.length (seqM mkI cOne (Core.params (rnC c a)) 1)) : Int) + (↑(sumBy cD (a3_c_LRen c a)) : Int) + (↑(sumBy cC (a2_c_LRen c a)) : Int)))),
 Orc.bool false, Orc.br [Orc.fin []] [Orc.fin []]]]]]]]]]]] (finK Try.prog [ResultVar.tmp 4] [] (AV.sv (lb true))) = (P_c_szCore c 1048576 ∧ (decide (sz (wC c) (1048576 : Int) < 0)
 = true → ObsEq [] [] ∧ AV.sv (lb true) = AV.sv (lb true)) ∧ (decide (sz (wC c) (1048576 : Int) < 0) = false → P_c_toCore c ∧ P_c_sRenum c a ∧ P_c_toCore c ∧ P_c_iRenum c a ∧
 P_c_eqCore (rnC c a) (rnC c a) ∧ ((!decide (rnC c a = rnC c a)) = true → true = true ∧ ObsEq [] [] ∧ AV.sv (lb false) = AV.sv (lb true)) ∧ ((!decide (rnC c a = rnC c a)) = false →
 (decide (rnF c a ≠ rnF c a) = true → ObsEq [] [] ∧ AV.sv (lb false) = AV.sv (lb true)) ∧ (decide (rnF c a ≠ rnF c a) = false → P_c_toCore c ∧ P_c_eqCore c c ∧ ((!decide (c = c)) =
 true → ObsEq [] [] ∧ AV.sv (lb false) = AV.sv (lb true)) ∧ ((!decide (c = c)) = false → P_c_markCore c 1 ∧ false = false ∧ P_c_eqCore (rnC c a) (rnC c a) ∧ ((!decide (rnC c a =
 rnC c a)) = true → true = true ∧ ObsEq [] [] ∧ AV.sv (lb false) = AV.sv (lb true)) ∧ ((!decide (rnC c a = rnC c a)) = false → (decide (rnF c a ≠ rnF c a) = true → ObsEq [] [] ∧
 AV.sv (lb false) = AV.sv (lb true)) ∧ (decide (rnF c a ≠ rnF c a) = false → P_c_markCore (rnC c a) 1 ∧ P_c_heldCore (a4_c_LRen c a) 1 ∧ false = false ∧ (decide (a1_c_LRen c a) =
 true → ObsEq [] [] ∧ AV.sv (lb false) = AV.sv (lb true)) ∧ (decide (a1_c_LRen c a) = false → P_c_toCore c ∧ P_c_iRenum c a ∧ P_c_eqCore (rnC c a) (rnC c a) ∧ ((!decide (rnC c a =
 rnC c a)) = true → true = true ∧ ObsEq [] [] ∧ AV.sv (lb false) = AV.sv (lb true)) ∧ ((!decide (rnC c a = rnC c a)) = false → (decide (rnF c a ≠ rnF c a) = true → ObsEq [] [] ∧
 AV.sv (lb false) = AV.sv (lb true)) ∧ (decide (rnF c a ≠ rnF c a) = false → P_c_heldCore (a4_c_LRen c a) 1 ∧ false = false ∧ (decide (a1_c_LRen c a) = true → ObsEq [] [] ∧ AV.sv
 (lb false) = AV.sv (lb true)) ∧ (decide (a1_c_LRen c a) = false → ObsEq [] [] ∧ AV.sv (lb true) = AV.sv (lb true)))))))))))) := by kernel_rfl
theorem c_LRen (c : Core) (a : Int)  : P_c_LRen c a := by
  refine CallOK.ofRun wide (run_c_LRen c a) Try.call18 Try.func18 rfl rfl rfl ?_
  try delta a3_c_LRen a2_c_LRen a1_c_LRen a4_c_LRen
  have h2 := cC_le c
  have h3 := cC_le (rnC c a)
  have h4 := cC_eq c
  have h5 := cC_eq (rnC c a)
  have h6 := wC_rn c a
  with_reducible repeat' (first | apply And.intro | exact flatI | exact flatS | exact rowLens | (intro; skip) | apply obsN | apply obsC | apply obA | apply obM | apply obB | apply svA | apply tupA | apply lcA | apply lcS | apply svC | apply liC | apply lbC | apply lsC | apply vIc | apply vBc | apply vSc | apply vLc | apply mapC | apply c_szCore | apply c_toCore | apply c_eqCore | apply c_sRenum | apply c_iRenum | apply c_markCore | apply c_heldCore)
  all_goals (try simp only [std, stdM] at *)
  all_goals (try (first | with_reducible apply c_szCore | with_reducible apply c_toCore | with_reducible apply c_eqCore | with_reducible apply c_sRenum | with_reducible apply c_iRenum | with_reducible apply c_markCore | with_reducible apply c_heldCore | (simp only [← List.map_append]; first | with_reducible apply c_szCore | with_reducible apply c_toCore | with_reducible apply c_eqCore | with_reducible apply c_sRenum | with_reducible apply c_iRenum | with_reducible apply c_markCore | with_reducible apply c_heldCore)))
  all_goals (try (first | with_reducible rfl | omega | assumption | (refine (decide_eq_true ?_).symm; assumption) | (refine (decide_eq_false ?_).symm; assumption) | (refine rowGet ?_; (first | omega | (simp only [std, stdM]; omega) | grind)) | (refine getC ?_ rfl; (first | omega | (simp only [std, stdM]; omega) | grind)) | (refine fill_step ?_ ?_; (first | omega | (simp only [std, stdM]; omega) | grind); (first | rfl | exact (Row.eq _).trans rfl)) | (refine fill_init ?_; (first | rfl | exact (Row.eq _).trans rfl)) | (refine set_row ?_; (simp only [List.length_map, List.length_set, mkTo_len]; omega)) | (refine mkToRow ?_; (first | omega | (simp only [std, stdM]; omega) | grind)) | (refine mkTo_row ?_ rfl; (first | omega | (simp only [std, stdM]; omega) | grind)) | (refine mkTo_step ?_ ?_; (first | omega | (simp only [std, stdM]; omega) | grind); (first | grind [sz, seqM_idem, seqM_len, sum_seqM, snocI, snocS, rowSnoc])) | (show (_ : St) = _; rfl) | grind [sz, seqM_idem, seqM_len, sum_seqM, snocI, snocS, rowSnoc]))
end Go.Proofs.Ytehpjofddjmbpaa
end
section
namespace Go.Proofs.Ytehpjofddjmbpaa.fnExactRenumberCore
open Go Go.ChangeShapes Go.WideShapes Go.ChangeAt Go.RowKit Go.Proofs.Ytehpjofddjmbpaa.Ab
set_option linter.unusedVariables false
theorem own : ownKnob Try.prog.godebug = none := by kernel_rfl
theorem laid : laidOutB Try.prog = true := by kernel_rfl
theorem rowed : mapsRowed Try.prog = true := by kernel_rfl
theorem sized : ((List.range Try.prog.types.size).all fun t => match Try.prog.underlying t with | some (.slice e) => decide (0 < Try.prog.cellsOf e) | _ => true) = true := by kernel_rfl
set_option maxRecDepth 100000 in
theorem lifted (os : Os) (started : os.Started) (H : Type) (enc : TypeId × Value → H) :
    ReturnsInHanded {} Try.checked os 18 .any (Rows.fnExactRenumberCoreSpec.pre6 enc Try.prog Try.f18 Rows.fnExactRenumberCoreRow.domain false) (Rows.fnExactRenumberCoreSpec.post enc Try.prog Try.f18 false true false false) := by
  refine returnsInHanded_of_change (C := Try.checked) own started (by kernel_rfl) Try.func18
    (ChangeSpec.witness6 (enc := enc) (C := Try.checked) false ⟨#[], #[.agg #[.int .i64 0, .int .i64 0, .slice none 0 0, .int .i64 0, .int .i64 0, .string ⟨#[]⟩, .slice none 0 0, .slice none 0 0], .int .i64 0], []⟩ 12 (by kernel_rfl) (by kernel_rfl) (by kernel_rfl) (by kernel_rfl)) ?_
  intro W base args ds gs before hval0 hW hcnd _
  have hval : ∀ (j : Nat) t v, Try.f18.params[j]? = some t → args[j]? = some v → Value.okWide Try.prog W .any base t v := hval0
  have hW' := hW
  obtain ⟨p, q, hA0, hV, rfl, hfz, hnd⟩ := hW
  obtain ⟨rfl, rfl⟩ := trodVars_none hV
  have hA : DataW.TrodAll enc Try.prog W 0 (fun _ => true) true Try.f18.params.toList args.toList ds p := hA0
  rw [Try.params18] at hA hval
  have hA2 := hA
  clear hA0 hval0
  obtain ⟨v0, vs0, d0, ds0, p0, q0, hargs0, rfl, rfl, h0, r0⟩ := trodAll_cons hA
  obtain ⟨v1, vs1, d1, ds1, p1, q1, hargs1, rfl, rfl, h1, r1⟩ := trodAll_cons r0
  obtain ⟨rfl, rfl, rfl⟩ := trodAll_nil r1
  obtain rfl : args = #[v0, v1] := by cases args; simp_all
  obtain ⟨a0, c0⟩ := (let ⟨fuel, hf⟩ := h0; rd_core fuel _ _ hf)
  have s0 : SVRel W (allI W) (obOf []) (coreA a0) v0 := agg_rel (let ⟨cs, h, _⟩ := okWide_struct Try.underlying90 (hval 0 90 v0 rfl rfl); ⟨cs, h⟩) c0
  obtain ⟨a1, rfl, rfl, rfl, w1⟩ := open_int Try.underlying3 (hval 1 3 v1 rfl rfl) h1
  have s1 : SVRel W (allI W) (obOf []) (li a1) (.int .i64 a1) := li_rel a1
  refine (CallOK.kept (w := W) (vals := #[v0, .int .i64 a1]) (c_LRen a0 a1) ⟨s0, s1, trivial⟩).mono fun e W' ⟨he, hg, _⟩ => ?_
  subst he
  exact ⟨_, rfl, post_of_kept (pv := []) hW' (fun _ _ _ => (trodAll_cons_mk (shut_bool Try.underlying4 _) trodAll_mk0))
    (fun sp hsp => trodAll_kept laid rowed sized hg (by decide +kernel) hA2 fun y hy => hsp y (by simpa using hy)) (fun _ _ => rfl) rfl
    hg (ok_one (by kernel_rfl) rfl (okWide_bool_mk Try.underlying4 _))⟩
set_option maxRecDepth 100000 in
set_option maxHeartbeats 0 in
theorem facts : joinedFacts Try.pinned.checked.prog 18 Try.f18 Rows.fnExactRenumberCoreSpec Rows.fnExactRenumberCoreRow = true := by
  delta joinedFacts
  with_reducible repeat' apply and_i
  all_goals (first | with_reducible exact enters | (rw [makes]; kernel_rfl) | (rw [lifts]; kernel_rfl) | decide +kernel)
theorem over : Rows.fnExactRenumberCoreRow.holds Try.pinned (OpenSpec.ofChange Rows.fnExactRenumberCoreSpec) :=
  OpenClaim.holds_of_wide 18 Try.f18 rfl rfl rfl rfl rfl rfl rfl ⟨rfl, rfl, rfl, rfl, rfl⟩ rfl rfl rfl rfl rfl (by kernel_rfl) Try.func18 facts
    (of_decide_eq_true (by kernel_rfl)) (by unfold Func.isWrapper; first | (rw [if_pos (by decide +kernel)]; kernel_rfl) | (rw [if_neg (by decide +kernel)]; exact ⟨rfl, rfl⟩))
    (fun os started H enc _ => lifted os started H enc)
theorem proved : Rows.FnExactRenumberCoreSaid :=
  over
end Go.Proofs.Ytehpjofddjmbpaa.fnExactRenumberCore
end
