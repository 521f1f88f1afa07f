/- The law FnExactParseModule holds: ParseModule answers as the reference's does. No condition. -/
import Derived.Test.YtehpjofddjmbpaaPm1
section
namespace Go.Proofs.Ytehpjofddjmbpaa
open Go Go.Proofs.Ytehpjofddjmbpaa.Ab
set_option linter.unusedVariables false
set_option linter.unusedSimpArgs false
set_option maxHeartbeats 4000000
abbrev P_c_pEqD (a : Datum) (b : Datum) : Prop := CallOK Try.prog 142 [] [datumA a, datumA b] [] (.sv (lb (decide (a = b))))
def Tc_pEqD_sLa (a : Datum) (b : Datum) (x0 : SV) : St := St.mk (regsOf 53 [(2, AV.sv (SV.one (AC.ptr 0 0))), (3, AV.sv (SV.one (AC.ptr 1 0))), (36, AV.sv (li (↑(List.length
 (List.map datumC (Datum.items a))) : Int))), (37, AV.sv x0)]) [Ob.box (vals (datumF a)), Ob.box (vals (datumF b))] 0 
def Lc_pEqD_sLa (a : Datum) (b : Datum) (k : Nat) : St := Tc_pEqD_sLa a b (li (↑k : Int)) 
def Ic_pEqD_sLa (a : Datum) (b : Datum) : Nat → St → Prop := Head (Lc_pEqD_sLa a b) (fun k => k ≤ List.length (Datum.items a) ∧ List.length (Datum.items a) ≤ 9223372036854775807 ∧
 List.length (Datum.items a) = List.length (Datum.items b) ∧ List.take k (Datum.items a) = List.take k (Datum.items b)) fun k => List.length (Datum.items a) - k 
def W0c_pEqD_sLa (a : Datum) (b : Datum) : St := St.mk (regsOf 53 []) [] 0 
def W1c_pEqD_sLa (a : Datum) (b : Datum) (x0 : SV) : St := St.mk (regsOf 53 [(4, AV.sv x0)]) [] 0 
def Yc_pEqD_sLa (a : Datum) (b : Datum) : List (Prop × AEx × St) := [(Datum.items a = Datum.items b, AEx.exit 0, W0c_pEqD_sLa a b), (Datum.items a ≠ Datum.items b, AEx.ret,
 W1c_pEqD_sLa a b (lb false))]
theorem Hc_pEqD_sLa {a : Datum} {b : Datum} {k : Nat} {m : Nat} (h : (fun k => k ≤ List.length (Datum.items a) ∧ List.length (Datum.items a) ≤ 9223372036854775807 ∧ List.length
 (Datum.items a) = List.length (Datum.items b) ∧ List.take k (Datum.items a) = List.take k (Datum.items b)) k) (hm : (fun k => List.length (Datum.items a) - k) k = m) : Ic_pEqD_sLa
 a b m (Lc_pEqD_sLa a b k) := hm ▸ Head.mk h
theorem Ec_pEqD_sLa {a : Datum} {b : Datum} {k : Nat} {x0 : SV} (h0 : x0 = (li (↑k : Int))) : Tc_pEqD_sLa a b x0 = Lc_pEqD_sLa a b k := by
  rw [h0]
  rfl
theorem EW1c_pEqD_sLa {a : Datum} {b : Datum} {x0 y0 : SV} (h0 : x0 = y0) : W1c_pEqD_sLa a b x0 = W1c_pEqD_sLa a b y0 := by rw [h0]
theorem run_c_pEqD_sLa (a : Datum) (b : Datum) (k : Nat) : aexec Try.prog (loopAt Try.f142 0) (Lc_pEqD_sLa a b k) [Orc.br [Orc.draw [], Orc.cells (datumF (List.getD (Datum.items a)
 k default)), Orc.cells (datumF (List.getD (Datum.items b) k default)), Orc.call [Mode.rd, Mode.rd] [] (AV.sv (lb (decide (List.getD (Datum.items a) k default = List.getD
 (Datum.items b) k default)))), Orc.br [Orc.ghost (Ghost.sel [] [4]), Orc.out 1] [Orc.ghost (Ghost.sel [0, 1] [2, 3, 36, 37]), Orc.goto (List.length (Datum.items a) - (k + 1))
 (Lc_pEqD_sLa a b (k + 1))]] [Orc.ghost (Ghost.sel [] []), Orc.out 0]] (loopK (Ic_pEqD_sLa a b) (Yc_pEqD_sLa a b) (List.length (Datum.items a) - k)) = ((decide ((↑k : Int) <
 (↑(List.length (List.map datumC (Datum.items a))) : Int)) = true → (0 ≤ (↑k : Int) ∧ (List.map datumC (Datum.items a))[Int.toNat (↑k : Int)]? = some (datumF (List.getD
 (Datum.items a) k default))) ∧ (0 ≤ (↑k : Int) ∧ (List.map datumC (Datum.items b))[Int.toNat (↑k : Int)]? = some (datumF (List.getD (Datum.items b) k default))) ∧ P_c_pEqD
 (List.getD (Datum.items a) k default) (List.getD (Datum.items b) k default) ∧ ((!decide (List.getD (Datum.items a) k default = List.getD (Datum.items b) k default)) = true →
 Datum.items a ≠ Datum.items b ∧ W1c_pEqD_sLa a b (lb false) = W1c_pEqD_sLa a b (lb false)) ∧ ((!decide (List.getD (Datum.items a) k default = List.getD (Datum.items b) k default))
 = false → rng IntKind.i64 ((↑k : Int) + 1) ∧ List.length (Datum.items a) - (k + 1) < List.length (Datum.items a) - k ∧ Tc_pEqD_sLa a b (li ((↑k : Int) + 1)) = Lc_pEqD_sLa a b (k +
 1) ∧ Ic_pEqD_sLa a b (List.length (Datum.items a) - (k + 1)) (Lc_pEqD_sLa a b (k + 1)))) ∧ (decide ((↑k : Int) < (↑(List.length (List.map datumC (Datum.items a))) : Int)) = false
 → Datum.items a = Datum.items b ∧ W0c_pEqD_sLa a b = W0c_pEqD_sLa a b)) := by kernel_rfl
theorem Sc_pEqD_sLa (a : Datum) (b : Datum) (ih : ∀ (z : Datum), z ∈ Datum.items a → ∀ (b : Datum), P_c_pEqD z b)  : LoopSem Try.prog (loopAt Try.f142 0) (Ic_pEqD_sLa a b)
 (Yc_pEqD_sLa a b) := by
  refine LoopSem.ofHead wide fun k h => ⟨_, _, run_c_pEqD_sLa a b k, ?_⟩
  with_reducible repeat' (first | apply And.intro | exact flatI | exact flatS | exact rowLens | exact ih | (intro; skip) | apply obsN | apply obsC | apply obA | apply obM | apply obB | apply svA | apply tupA | apply lcA | apply lcS | apply svC | apply liC | apply lbC | apply lsC | apply vIc | apply vBc | apply vSc | apply vLc | apply mapC | apply Hc_pEqD_sLa | apply Ec_pEqD_sLa | apply EW1c_pEqD_sLa | apply ih)
  all_goals (try simp only [std] at *)
  all_goals (try (first | with_reducible apply ih | (simp only [← List.map_append]; first | with_reducible apply ih)))
  all_goals (try (first | with_reducible rfl | omega | assumption | (refine (decide_eq_true ?_).symm; assumption) | (refine (decide_eq_false ?_).symm; assumption) | (refine rowGet ?_; (first | omega | (simp only [std]; omega) | grind)) | (refine getC ?_ rfl; (first | omega | (simp only [std]; omega) | grind)) | (refine fill_step ?_ ?_; (first | omega | (simp only [std]; omega) | grind); (first | rfl | exact (Row.eq _).trans rfl)) | (refine fill_init ?_; (first | rfl | exact (Row.eq _).trans rfl)) | (show (_ : St) = _; rfl) | grind [take_eq, getD_mem', snocI, snocS, rowSnoc]))
theorem run_c_pEqD_s (a : Datum) (b : Datum) : aexec Try.prog (Option.getD (Func.body Try.f142) Code.skip) (entry [] [datumA a, datumA b] 53) [Orc.br [Orc.bool true, Orc.bool true,
 Orc.bool true, Orc.fin []] [Orc.br [Orc.bool true, Orc.bool true, Orc.fin []] [Orc.br [Orc.bool true, Orc.fin []] [Orc.br [Orc.fin []] [Orc.ghost (Ghost.sel [0, 1] [2, 3, 36,
 37]), Orc.loop (List.length (Datum.items a) - 0) (Lc_pEqD_sLa a b 0) (Ic_pEqD_sLa a b) [(Datum.items a = Datum.items b, AEx.exit 0, W0c_pEqD_sLa a b, [Orc.fin []]), (Datum.items a
 ≠ Datum.items b, AEx.ret, W1c_pEqD_sLa a b (lb false), [Orc.fin []])]]]]]] (finK Try.prog [ResultVar.tmp 4] [] (AV.sv (lb (decide (a = b))))) = ((decide (Datum.kind a ≠ Datum.kind
 b) = true → true = true ∧ true = true ∧ true = true ∧ ObsEq [] [] ∧ AV.sv (lb false) = AV.sv (lb (decide (a = b)))) ∧ (decide (Datum.kind a ≠ Datum.kind b) = false → (decide
 (Datum.number a ≠ Datum.number b) = true → true = true ∧ true = true ∧ ObsEq [] [] ∧ AV.sv (lb false) = AV.sv (lb (decide (a = b)))) ∧ (decide (Datum.number a ≠ Datum.number b) =
 false → (decide (Array.toList (ByteArray.data (Datum.text a)) ≠ Array.toList (ByteArray.data (Datum.text b))) = true → true = true ∧ ObsEq [] [] ∧ AV.sv (lb false) = AV.sv (lb
 (decide (a = b)))) ∧ (decide (Array.toList (ByteArray.data (Datum.text a)) ≠ Array.toList (ByteArray.data (Datum.text b))) = false → List.length (List.map datumC (Datum.items a))
 ≤ 9223372036854775807 → List.length (List.map datumC (Datum.items b)) ≤ 9223372036854775807 → (decide ((↑(List.length (List.map datumC (Datum.items a))) : Int) ≠ (↑(List.length
 (List.map datumC (Datum.items b))) : Int)) = true → ObsEq [] [] ∧ AV.sv (lb false) = AV.sv (lb (decide (a = b)))) ∧ (decide ((↑(List.length (List.map datumC (Datum.items a))) :
 Int) ≠ (↑(List.length (List.map datumC (Datum.items b))) : Int)) = false → List.length (List.map datumC (Datum.items a)) ≤ 9223372036854775807 → Tc_pEqD_sLa a b (li 0) =
 Lc_pEqD_sLa a b 0 ∧ Ic_pEqD_sLa a b (List.length (Datum.items a) - 0) (Lc_pEqD_sLa a b 0) ∧ LoopSem Try.prog (loopAt Try.f142 0) (Ic_pEqD_sLa a b) (Yc_pEqD_sLa a b) ∧ (Datum.items
 a = Datum.items b → ObsEq [] [] ∧ AV.sv (lb true) = AV.sv (lb (decide (a = b)))) ∧ ((Datum.items a = Datum.items b → False) → ObsEq [] [] ∧ AV.sv (lb false) = AV.sv (lb (decide (a
 = b)))) ∧ True))))) := by kernel_rfl
theorem c_pEqD_s (a b : Datum) (ih : ∀ z ∈ a.items, ∀ (b : Datum), P_c_pEqD z b)  : P_c_pEqD a b := by
  refine CallOK.ofRun wide (run_c_pEqD_s a b) Try.call142 Try.func142 rfl rfl rfl ?_
  simp only [datumExt]
  with_reducible repeat' (first | apply And.intro | exact flatI | exact flatS | exact rowLens | exact ih | (intro; skip) | apply obsN | apply obsC | apply obA | apply obM | apply obB | apply svA | apply tupA | apply lcA | apply lcS | apply svC | apply liC | apply lbC | apply lsC | apply vIc | apply vBc | apply vSc | apply vLc | apply mapC | apply Hc_pEqD_sLa | apply Ec_pEqD_sLa | apply Sc_pEqD_sLa | apply EW1c_pEqD_sLa)
  all_goals (try simp only [std] at *)
  all_goals (try (first | with_reducible apply ih | (simp only [← List.map_append]; first | with_reducible apply ih)))
  all_goals (try (first | with_reducible rfl | omega | assumption | (refine (decide_eq_true ?_).symm; assumption) | (refine (decide_eq_false ?_).symm; assumption) | (refine rowGet ?_; (first | omega | (simp only [std]; omega) | grind)) | (refine getC ?_ rfl; (first | omega | (simp only [std]; omega) | grind)) | (refine fill_step ?_ ?_; (first | omega | (simp only [std]; omega) | grind); (first | rfl | exact (Row.eq _).trans rfl)) | (refine fill_init ?_; (first | rfl | exact (Row.eq _).trans rfl)) | (show (_ : St) = _; rfl) | grind [bytes_ext, snocI, snocS, rowSnoc]))
theorem c_pEqD (a : Datum) : ∀ (b : Datum), P_c_pEqD a b := Datum.ind (P := fun a => ∀ (b : Datum), P_c_pEqD a b) (fun a ih b => c_pEqD_s a b ih) a
abbrev P_c_pCopyD (x : Datum) : Prop := CallOK Try.prog 141 [] [datumA x] (datumO x) (.sv (datumR x 0))
def Tc_pCopyD_sLa (x : Datum) (x0 : SV) (x1 : Ob) : St := St.mk (regsOf 29 [(2, AV.sv (SV.one (AC.ptr 0 0))), (3, AV.sv (SV.one (AC.ptr 1 0))), (14, AV.sv (ll (List.map datumC
 (Datum.items x)))), (15, AV.sv (li (↑(List.length (List.map datumC (Datum.items x))) : Int))), (16, AV.sv x0)]) [Ob.box [vI 0, vI 0, vS (ByteArray.mk #[]), AC.val (Cell.lit
 (Value.slice none 0 0))], Ob.box [vI (Datum.kind x), vI (Datum.number x), vS (Datum.text x), AC.ref 2], x1] 0 
def Lc_pCopyD_sLa (x : Datum) (k : Nat) : St := Tc_pCopyD_sLa x (li (↑k : Int)) (Ob.arr true 4 (List.map datumC (List.take k (Datum.items x)))) 
def Ic_pCopyD_sLa (x : Datum) : Nat → St → Prop := Head (Lc_pCopyD_sLa x) (fun k => k ≤ List.length (Datum.items x) ∧ List.length (Datum.items x) ≤ 9223372036854775807) fun k =>
 List.length (Datum.items x) - k 
def W0c_pCopyD_sLa (x : Datum) (x0 : Ob) : St := St.mk (regsOf 29 [(2, AV.sv (SV.one (AC.ptr 0 0))), (3, AV.sv (SV.one (AC.ptr 1 0)))]) [Ob.box [vI 0, vI 0, vS (ByteArray.mk #[]),
 AC.val (Cell.lit (Value.slice none 0 0))], Ob.box [vI (Datum.kind x), vI (Datum.number x), vS (Datum.text x), AC.ref 2], x0] 0 
def Yc_pCopyD_sLa (x : Datum) : List (Prop × AEx × St) := [(True, AEx.exit 0, W0c_pCopyD_sLa x (Ob.arr true 4 (List.map datumC (Datum.items x))))]
theorem Hc_pCopyD_sLa {x : Datum} {k : Nat} {m : Nat} (h : (fun k => k ≤ List.length (Datum.items x) ∧ List.length (Datum.items x) ≤ 9223372036854775807) k) (hm : (fun k =>
 List.length (Datum.items x) - k) k = m) : Ic_pCopyD_sLa x m (Lc_pCopyD_sLa x k) := hm ▸ Head.mk h
theorem Ec_pCopyD_sLa {x : Datum} {k : Nat} {x0 : SV} {x1 : Ob} (h0 : x0 = (li (↑k : Int))) (h1 : x1 = (Ob.arr true 4 (List.map datumC (List.take k (Datum.items x))))) :
 Tc_pCopyD_sLa x x0 x1 = Lc_pCopyD_sLa x k := by
  rw [h0, h1]
  rfl
theorem EW0c_pCopyD_sLa {x : Datum} {x0 y0 : Ob} (h0 : x0 = y0) : W0c_pCopyD_sLa x x0 = W0c_pCopyD_sLa x y0 := by rw [h0]
theorem run_c_pCopyD_sLa (x : Datum) (k : Nat) : aexec Try.prog (loopAt Try.f141 0) (Lc_pCopyD_sLa x k) [Orc.br [Orc.cells (datumF (List.getD (Datum.items x) k default)), Orc.draw
 [(4, [4]), (5, [2, 12]), (7, [1])], Orc.call [Mode.rd] (datumO (List.getD (Datum.items x) k default)) (AV.sv (datumR (List.getD (Datum.items x) k default) 0)), Orc.ghost
 (Ghost.sel [0, 1, 13] [2, 3, 14, 15, 16]), Orc.goto (List.length (Datum.items x) - (k + 1)) (Lc_pCopyD_sLa x (k + 1))] [Orc.ghost (Ghost.sel [0, 1, 2] [2, 3]), Orc.out 0]] (loopK
 (Ic_pCopyD_sLa x) (Yc_pCopyD_sLa x) (List.length (Datum.items x) - k)) = ((decide ((↑k : Int) < (↑(List.length (List.map datumC (Datum.items x))) : Int)) = true → (0 ≤ (↑k : Int)
 ∧ (List.map datumC (Datum.items x))[Int.toNat (↑k : Int)]? = some (datumF (List.getD (Datum.items x) k default))) ∧ P_c_pCopyD (List.getD (Datum.items x) k default) ∧ (List.length
 (List.map datumC (List.take k (Datum.items x))) + 1) * 56 ≤ 140737488355328 ∧ rng IntKind.i64 ((↑k : Int) + 1) ∧ List.length (Datum.items x) - (k + 1) < List.length (Datum.items
 x) - k ∧ Tc_pCopyD_sLa x (li ((↑k : Int) + 1)) (Ob.arr true 4 (List.map datumC (List.take k (Datum.items x)) ++ [datumF (List.getD (Datum.items x) k default)])) = Lc_pCopyD_sLa x
 (k + 1) ∧ Ic_pCopyD_sLa x (List.length (Datum.items x) - (k + 1)) (Lc_pCopyD_sLa x (k + 1))) ∧ (decide ((↑k : Int) < (↑(List.length (List.map datumC (Datum.items x))) : Int)) =
 false → True ∧ W0c_pCopyD_sLa x (Ob.arr true 4 (List.map datumC (List.take k (Datum.items x)))) = W0c_pCopyD_sLa x (Ob.arr true 4 (List.map datumC (Datum.items x))))) := by
 kernel_rfl
theorem Sc_pCopyD_sLa (x : Datum) (h : wD x ≤ 1048576) (ih : ∀ (z : Datum), z ∈ Datum.items x → wD z ≤ 1048576 → P_c_pCopyD z)  : LoopSem Try.prog (loopAt Try.f141 0)
 (Ic_pCopyD_sLa x) (Yc_pCopyD_sLa x) := by
  refine LoopSem.ofHead wide fun k h => ⟨_, _, run_c_pCopyD_sLa x k, ?_⟩
  have g1 := wD_eq x
  have g2 := @sumBy_mem _ wD x.items (x.items.getD k default)
  with_reducible repeat' (first | apply And.intro | exact flatI | exact flatS | exact rowLens | exact ih | (intro; skip) | apply obsN | apply obsC | apply obA | apply obM | apply obB | apply svA | apply tupA | apply lcA | apply lcS | apply svC | apply liC | apply lbC | apply lsC | apply vIc | apply vBc | apply vSc | apply vLc | apply mapC | apply Hc_pCopyD_sLa | apply Ec_pCopyD_sLa | apply EW0c_pCopyD_sLa | apply ih)
  all_goals (try simp only [std] at *)
  all_goals (try (first | with_reducible apply ih | (simp only [← List.map_append]; first | with_reducible apply ih)))
  all_goals (try (first | with_reducible rfl | omega | assumption | (refine (decide_eq_true ?_).symm; assumption) | (refine (decide_eq_false ?_).symm; assumption) | (refine rowGet ?_; (first | omega | (simp only [std]; omega) | grind)) | (refine getC ?_ rfl; (first | omega | (simp only [std]; omega) | grind)) | (refine fill_step ?_ ?_; (first | omega | (simp only [std]; omega) | grind); (first | rfl | exact (Row.eq _).trans rfl)) | (refine fill_init ?_; (first | rfl | exact (Row.eq _).trans rfl)) | (show (_ : St) = _; rfl) | grind [take_get, getD_mem', snocI, snocS, rowSnoc, getD_mem']))
theorem run_c_pCopyD_s (x : Datum) : aexec Try.prog (Option.getD (Func.body Try.f141) Code.skip) (entry [] [datumA x] 29) [Orc.ghost (Ghost.nilbox 2 3 true 4), Orc.ghost (Ghost.sel
 [1, 2, 3] [2, 3, 14, 15, 16]), Orc.loop (List.length (Datum.items x) - 0) (Lc_pCopyD_sLa x 0) (Ic_pCopyD_sLa x) [(True, AEx.exit 0, W0c_pCopyD_sLa x (Ob.arr true 4 (List.map
 datumC (Datum.items x))), [Orc.fin [2]])]] (finK Try.prog [ResultVar.cell 2 66] (datumO x) (AV.sv (datumR x 0))) = (List.length (List.map datumC (Datum.items x)) ≤
 9223372036854775807 → Tc_pCopyD_sLa x (li 0) (Ob.arr true 4 []) = Lc_pCopyD_sLa x 0 ∧ Ic_pCopyD_sLa x (List.length (Datum.items x) - 0) (Lc_pCopyD_sLa x 0) ∧ LoopSem Try.prog
 (loopAt Try.f141 0) (Ic_pCopyD_sLa x) (Yc_pCopyD_sLa x) ∧ (True → ObsEq [Ob.arr true 4 (List.map datumC (Datum.items x))] [Ob.arr true 4 (List.map datumC (Datum.items x))] ∧ AV.sv
 (SV.agg [vI (Datum.kind x), vI (Datum.number x), vS (Datum.text x), AC.ref 0]) = AV.sv (SV.agg [vI (Datum.kind x), vI (Datum.number x), vS (Datum.text x), AC.ref 0])) ∧ True) :=
 by kernel_rfl
theorem c_pCopyD_s (x : Datum) (h : wD x ≤ 1048576) (ih : ∀ z ∈ x.items, ∀ (h : wD z ≤ 1048576), P_c_pCopyD z)  : P_c_pCopyD x := by
  refine CallOK.ofRun wide (run_c_pCopyD_s x) Try.call141 Try.func141 rfl rfl rfl ?_
  with_reducible repeat' (first | apply And.intro | exact flatI | exact flatS | exact rowLens | exact ih | (intro; skip) | apply obsN | apply obsC | apply obA | apply obM | apply obB | apply svA | apply tupA | apply lcA | apply lcS | apply svC | apply liC | apply lbC | apply lsC | apply vIc | apply vBc | apply vSc | apply vLc | apply mapC | apply Hc_pCopyD_sLa | apply Ec_pCopyD_sLa | apply Sc_pCopyD_sLa | apply EW0c_pCopyD_sLa)
  all_goals (try simp only [std] at *)
  all_goals (try (first | with_reducible apply ih | (simp only [← List.map_append]; first | with_reducible apply ih)))
  all_goals (try (first | with_reducible rfl | omega | assumption | (refine (decide_eq_true ?_).symm; assumption) | (refine (decide_eq_false ?_).symm; assumption) | (refine rowGet ?_; (first | omega | (simp only [std]; omega) | grind)) | (refine getC ?_ rfl; (first | omega | (simp only [std]; omega) | grind)) | (refine fill_step ?_ ?_; (first | omega | (simp only [std]; omega) | grind); (first | rfl | exact (Row.eq _).trans rfl)) | (refine fill_init ?_; (first | rfl | exact (Row.eq _).trans rfl)) | (show (_ : St) = _; rfl) | grind [snocI, snocS, rowSnoc]))
theorem c_pCopyD (x : Datum) : ∀ (h : wD x ≤ 1048576), P_c_pCopyD x := Datum.ind (P := fun x => ∀ (h : wD x ≤ 1048576), P_c_pCopyD x) (fun x ih h => c_pCopyD_s x h ih) x
def txs (d : Datum) : List ByteArray := d.items.map Datum.text
theorem txs_snoc (d : Datum) {k : Nat} (h : k < d.items.length) : (d.items.take (k + 1)).map Datum.text = (d.items.take k).map Datum.text ++ [(d.items.getD k default).text] := by
  rw [take_get h]; simp
abbrev P_c_sTexts (d : Datum) : Prop := CallOK Try.prog 140 [] [datumA d] [.arr true 1 ((txs d).map strC)] (.sv (.one (.ref 0)))
def Tc_sTextsLa (d : Datum) (x0 : SV) (x1 : Ob) : St := St.mk (regsOf 21 [(3, AV.sv (SV.one (AC.ref 0))), (8, AV.sv (ll (List.map datumC (Datum.items d)))), (9, AV.sv (li
 (↑(List.length (List.map datumC (Datum.items d))) : Int))), (10, AV.sv x0)]) [x1] 0 
def Lc_sTextsLa (d : Datum) (k : Nat) : St := Tc_sTextsLa d (li (↑k : Int)) (Ob.arr true 1 (List.map strC (List.map Datum.text (List.take k (Datum.items d))))) 
def Ic_sTextsLa (d : Datum) : Nat → St → Prop := Head (Lc_sTextsLa d) (fun k => k ≤ List.length (Datum.items d) ∧ List.length (Datum.items d) ≤ 9223372036854775807) fun k =>
 List.length (Datum.items d) - k 
def W0c_sTextsLa (d : Datum) (x0 : Ob) : St := St.mk (regsOf 21 [(3, AV.sv (SV.one (AC.ref 0)))]) [x0] 0 
def Yc_sTextsLa (d : Datum) : List (Prop × AEx × St) := [(True, AEx.exit 0, W0c_sTextsLa d (Ob.arr true 1 (List.map strC (txs d))))]
theorem Hc_sTextsLa {d : Datum} {k : Nat} {m : Nat} (h : (fun k => k ≤ List.length (Datum.items d) ∧ List.length (Datum.items d) ≤ 9223372036854775807) k) (hm : (fun k =>
 List.length (Datum.items d) - k) k = m) : Ic_sTextsLa d m (Lc_sTextsLa d k) := hm ▸ Head.mk h
theorem Ec_sTextsLa {d : Datum} {k : Nat} {x0 : SV} {x1 : Ob} (h0 : x0 = (li (↑k : Int))) (h1 : x1 = (Ob.arr true 1 (List.map strC (List.map Datum.text (List.take k (Datum.items
 d)))))) : Tc_sTextsLa d x0 x1 = Lc_sTextsLa d k := by
  rw [h0, h1]
  rfl
theorem EW0c_sTextsLa {d : Datum} {x0 y0 : Ob} (h0 : x0 = y0) : W0c_sTextsLa d x0 = W0c_sTextsLa d y0 := by rw [h0]
theorem run_c_sTextsLa (d : Datum) (k : Nat) : aexec Try.prog (loopAt Try.f140 0) (Lc_sTextsLa d k) [Orc.br [Orc.cells (datumF (List.getD (Datum.items d) k default)), Orc.ghost
 (Ghost.sel [3] [3, 8, 9, 10]), Orc.goto (List.length (Datum.items d) - (k + 1)) (Lc_sTextsLa d (k + 1))] [Orc.ghost (Ghost.sel [0] [3]), Orc.out 0]] (loopK (Ic_sTextsLa d)
 (Yc_sTextsLa d) (List.length (Datum.items d) - k)) = ((decide ((↑k : Int) < (↑(List.length (List.map datumC (Datum.items d))) : Int)) = true → (0 ≤ (↑k : Int) ∧ (List.map datumC
 (Datum.items d))[Int.toNat (↑k : Int)]? = some (datumF (List.getD (Datum.items d) k default))) ∧ (List.length (List.map strC (List.map Datum.text (List.take k (Datum.items d)))) +
 1) * 16 ≤ 140737488355328 ∧ rng IntKind.i64 ((↑k : Int) + 1) ∧ List.length (Datum.items d) - (k + 1) < List.length (Datum.items d) - k ∧ Tc_sTextsLa d (li ((↑k : Int) + 1))
 (Ob.arr true 1 (List.map strC (List.map Datum.text (List.take k (Datum.items d))) ++ [[cS (Datum.text (List.getD (Datum.items d) k default))]])) = Lc_sTextsLa d (k + 1) ∧
 Ic_sTextsLa d (List.length (Datum.items d) - (k + 1)) (Lc_sTextsLa d (k + 1))) ∧ (decide ((↑k : Int) < (↑(List.length (List.map datumC (Datum.items d))) : Int)) = false → True ∧
 W0c_sTextsLa d (Ob.arr true 1 (List.map strC (List.map Datum.text (List.take k (Datum.items d))))) = W0c_sTextsLa d (Ob.arr true 1 (List.map strC (txs d))))) := by kernel_rfl
theorem Sc_sTextsLa (d : Datum) (h : wD d ≤ 1048576)  : LoopSem Try.prog (loopAt Try.f140 0) (Ic_sTextsLa d) (Yc_sTextsLa d) := by
  refine LoopSem.ofHead wide fun k h => ⟨_, _, run_c_sTextsLa d k, ?_⟩
  have g1 := wD_eq d
  have g2 := @txs_snoc d k
  with_reducible repeat' (first | apply And.intro | exact flatI | exact flatS | exact rowLens | (intro; skip) | apply obsN | apply obsC | apply obA | apply obM | apply obB | apply svA | apply tupA | apply lcA | apply lcS | apply svC | apply liC | apply lbC | apply lsC | apply vIc | apply vBc | apply vSc | apply vLc | apply mapC | apply Hc_sTextsLa | apply Ec_sTextsLa | apply EW0c_sTextsLa)
  all_goals (try simp only [std] at *)
  all_goals (try (first | with_reducible rfl | omega | assumption | (refine (decide_eq_true ?_).symm; assumption) | (refine (decide_eq_false ?_).symm; assumption) | (refine rowGet ?_; (first | omega | (simp only [std]; omega) | grind)) | (refine getC ?_ rfl; (first | omega | (simp only [std]; omega) | grind)) | (refine fill_step ?_ ?_; (first | omega | (simp only [std]; omega) | grind); (first | rfl | exact (Row.eq _).trans rfl)) | (refine fill_init ?_; (first | rfl | exact (Row.eq _).trans rfl)) | (show (_ : St) = _; rfl) | grind [txs, snocI, snocS, rowSnoc, getD_mem']))
theorem run_c_sTexts (d : Datum) : aexec Try.prog (Option.getD (Func.body Try.f140) Code.skip) (entry [] [datumA d] 21) [Orc.ghost (Ghost.sel [1] [3, 8, 9, 10]), Orc.loop
 (List.length (Datum.items d) - 0) (Lc_sTextsLa d 0) (Ic_sTextsLa d) [(True, AEx.exit 0, W0c_sTextsLa d (Ob.arr true 1 (List.map strC (txs d))), [Orc.fin [0]])]] (finK Try.prog
 [ResultVar.tmp 2] [Ob.arr true 1 (List.map strC (txs d))] (AV.sv (SV.one (AC.ref 0)))) = (List.length (List.map datumC (Datum.items d)) ≤ 9223372036854775807 → Tc_sTextsLa d (li
 0) (Ob.arr true 1 []) = Lc_sTextsLa d 0 ∧ Ic_sTextsLa d (List.length (Datum.items d) - 0) (Lc_sTextsLa d 0) ∧ LoopSem Try.prog (loopAt Try.f140 0) (Ic_sTextsLa d) (Yc_sTextsLa d)
 ∧ (True → ObsEq [Ob.arr true 1 (List.map strC (txs d))] [Ob.arr true 1 (List.map strC (txs d))] ∧ AV.sv (SV.one (AC.ref 0)) = AV.sv (SV.one (AC.ref 0))) ∧ True) := by kernel_rfl
theorem c_sTexts (d : Datum) (h : wD d ≤ 1048576)  : P_c_sTexts d := by
  refine CallOK.ofRun wide (run_c_sTexts d) Try.call140 Try.func140 rfl rfl rfl ?_
  with_reducible repeat' (first | apply And.intro | exact flatI | exact flatS | exact rowLens | (intro; skip) | apply obsN | apply obsC | apply obA | apply obM | apply obB | apply svA | apply tupA | apply lcA | apply lcS | apply svC | apply liC | apply lbC | apply lsC | apply vIc | apply vBc | apply vSc | apply vLc | apply mapC | apply Hc_sTextsLa | apply Ec_sTextsLa | apply Sc_sTextsLa | apply EW0c_sTextsLa)
  all_goals (try simp only [std] at *)
  all_goals (try (first | with_reducible rfl | omega | assumption | (refine (decide_eq_true ?_).symm; assumption) | (refine (decide_eq_false ?_).symm; assumption) | (refine rowGet ?_; (first | omega | (simp only [std]; omega) | grind)) | (refine getC ?_ rfl; (first | omega | (simp only [std]; omega) | grind)) | (refine fill_step ?_ ?_; (first | omega | (simp only [std]; omega) | grind); (first | rfl | exact (Row.eq _).trans rfl)) | (refine fill_init ?_; (first | rfl | exact (Row.eq _).trans rfl)) | (show (_ : St) = _; rfl) | grind [snocI, snocS, rowSnoc]))
def parM (d : Datum) : Module := ⟨(d.items.getD 1 default).text, txs (d.items.getD 2 default), txs (d.items.getD 3 default), d.items.drop 4⟩
def parB (d : Datum) : Bool := isDat d && decide (4 ≤ (d.items.length : Int)) && modOK (parM d) && decide (lstD (modD (parM d)) = d)
def parR (d : Datum) : Module := if parB d = true then parM d else ⟨mkS [], [], [], []⟩
theorem txs_w (d : Datum) : wS (txs d) ≤ wD d := by
  have h : ∀ L : List Datum, sumBy ByteArray.size (L.map Datum.text) ≤ sumBy wD L := by
    intro L
    induction L with
    | nil => exact Nat.le_refl _
    | cons x r ih => have := wD_eq x; simp only [List.map_cons, sumBy]; omega
  have h1 := h d.items
  have h2 := wD_eq d
  unfold wS txs; rw [List.length_map]; omega
theorem parM_w {d : Datum} (h : 4 ≤ d.items.length) : wM (parM d) ≤ wD d := by
  have h1 := @sumBy_drop _ _ wD d.items 0 (by omega)
  have h2 := @sumBy_drop _ _ wD d.items 1 (by omega)
  have h3 := @sumBy_drop _ _ wD d.items 2 (by omega)
  have h4 := @sumBy_drop _ _ wD d.items 3 (by omega)
  rw [List.drop_zero] at h1
  simp only [Nat.zero_add, Nat.reduceAdd] at h1 h2 h3 h4
  have h5 := txs_w (d.items.getD 2 default)
  have h6 := txs_w (d.items.getD 3 default)
  have h7 := wD_eq (d.items.getD 1 default)
  have h8 := wD_eq d
  have h9 : (d.items.drop 4).length = d.items.length - 4 := List.length_drop
  rw [wM_eq]; simp only [parM]; omega
abbrev P_c_sParse (d : Datum) : Prop := CallOK Try.prog 43 [] [datumA d] [] (.tup [.agg (vals (moduleF (parR d))), lb (parB d)])
def Tc_sParseLa (d : Datum) (x0 : SV) (x1 : Ob) : St := St.mk (regsOf 61 [(1, AV.sv (SV.one (AC.ptr 0 0))), (2, AV.sv (SV.one (AC.ptr 1 0))), (4, AV.sv (SV.one (AC.ptr 2 0))), (35,
 AV.sv (ll (List.take (List.length (List.map datumC (Datum.items d)) - 4) (List.drop 4 (List.map datumC (Datum.items d)))))), (36, AV.sv (li (↑(List.length (List.take (List.length
 (List.map datumC (Datum.items d)) - 4) (List.drop 4 (List.map datumC (Datum.items d))))) : Int))), (37, AV.sv x0)]) [Ob.box (vals (datumF d)), Ob.box [vS (ByteArray.mk #[]),
 AC.val (Cell.lit (Value.slice none 0 0)), AC.val (Cell.lit (Value.slice none 0 0)), AC.val (Cell.lit (Value.slice none 0 0))], Ob.box [vS (Datum.text (List.getD (Datum.items d) 1
 default)), AC.ref 3, AC.ref 4, AC.ref 5], Ob.arr true 1 (List.map strC (txs (List.getD (Datum.items d) 2 default))), Ob.arr true 1 (List.map strC (txs (List.getD (Datum.items d) 3
 default))), x1] 0 
def Lc_sParseLa (d : Datum) (k : Nat) : St := Tc_sParseLa d (li (↑k : Int)) (Ob.arr true 4 (List.map datumC (List.take k (List.drop 4 (Datum.items d))))) 
def Ic_sParseLa (d : Datum) : Nat → St → Prop := Head (Lc_sParseLa d) (fun k => k ≤ List.length (List.drop 4 (Datum.items d)) ∧ 4 ≤ List.length (Datum.items d) ∧ List.length
 (Datum.items d) ≤ 9223372036854775807) fun k => List.length (List.drop 4 (Datum.items d)) - k 
def W0c_sParseLa (d : Datum) (x0 : AC) (x1 : AC) (x2 : AC) : St := St.mk (regsOf 61 [(1, AV.sv (SV.one (AC.ptr 0 0))), (2, AV.sv (SV.one (AC.ptr 1 0))), (4, AV.sv (SV.one (AC.ptr 2
 0)))]) [Ob.box (vals (datumF d)), Ob.box [vS (ByteArray.mk #[]), AC.val (Cell.lit (Value.slice none 0 0)), AC.val (Cell.lit (Value.slice none 0 0)), AC.val (Cell.lit (Value.slice
 none 0 0))], Ob.box [vS (Datum.text (List.getD (Datum.items d) 1 default)), x0, x1, x2]] 0 
def Yc_sParseLa (d : Datum) : List (Prop × AEx × St) := [(True, AEx.exit 0, W0c_sParseLa d (vL (List.map strC (txs (List.getD (Datum.items d) 2 default)))) (vL (List.map strC (txs
 (List.getD (Datum.items d) 3 default)))) (vL (List.map datumC (List.drop 4 (Datum.items d)))))]
theorem Hc_sParseLa {d : Datum} {k : Nat} {m : Nat} (h : (fun k => k ≤ List.length (List.drop 4 (Datum.items d)) ∧ 4 ≤ List.length (Datum.items d) ∧ List.length (Datum.items d) ≤
 9223372036854775807) k) (hm : (fun k => List.length (List.drop 4 (Datum.items d)) - k) k = m) : Ic_sParseLa d m (Lc_sParseLa d k) := hm ▸ Head.mk h
theorem Ec_sParseLa {d : Datum} {k : Nat} {x0 : SV} {x1 : Ob} (h0 : x0 = (li (↑k : Int))) (h1 : x1 = (Ob.arr true 4 (List.map datumC (List.take k (List.drop 4 (Datum.items d))))))
 : Tc_sParseLa d x0 x1 = Lc_sParseLa d k := by
  rw [h0, h1]
  rfl
theorem EW0c_sParseLa {d : Datum} {x0 y0 : AC} {x1 y1 : AC} {x2 y2 : AC} (h0 : x0 = y0) (h1 : x1 = y1) (h2 : x2 = y2) : W0c_sParseLa d x0 x1 x2 = W0c_sParseLa d y0 y1 y2 := by rw
 [h0, h1, h2]
theorem run_c_sParseLa (d : Datum) (k : Nat) : aexec Try.prog (loopAt Try.f43 0) (Lc_sParseLa d k) [Orc.br [Orc.cells (datumF (List.getD (List.take (List.length (List.map datumC
 (Datum.items d)) - 4) (List.drop 4 (Datum.items d))) k default)), Orc.draw [(4, [7]), (5, [5, 15]), (7, [2])], Orc.call [Mode.rd] (datumO (List.getD (List.take (List.length
 (List.map datumC (Datum.items d)) - 4) (List.drop 4 (Datum.items d))) k default)) (AV.sv (datumR (List.getD (List.take (List.length (List.map datumC (Datum.items d)) - 4)
 (List.drop 4 (Datum.items d))) k default) 0)), Orc.ghost (Ghost.sel [0, 1, 2, 3, 4, 16] [1, 2, 4, 35, 36, 37]), Orc.goto (List.length (List.drop 4 (Datum.items d)) - (k + 1))
 (Lc_sParseLa d (k + 1))] [Orc.ghost (Ghost.lock 3), Orc.ghost (Ghost.lock 4), Orc.ghost (Ghost.lock 5), Orc.ghost (Ghost.sel [0, 1, 2] [1, 2, 4]), Orc.out 0]] (loopK (Ic_sParseLa
 d) (Yc_sParseLa d) (List.length (List.drop 4 (Datum.items d)) - k)) = ((decide ((↑k : Int) < (↑(List.length (List.take (List.length (List.map datumC (Datum.items d)) - 4)
 (List.drop 4 (List.map datumC (Datum.items d))))) : Int)) = true → (0 ≤ (↑k : Int) ∧ (List.take (List.length (List.map datumC (Datum.items d)) - 4) (List.drop 4 (List.map datumC
 (Datum.items d))))[Int.toNat (↑k : Int)]? = some (datumF (List.getD (List.take (List.length (List.map datumC (Datum.items d)) - 4) (List.drop 4 (Datum.items d))) k default))) ∧
 P_c_pCopyD (List.getD (List.take (List.length (List.map datumC (Datum.items d)) - 4) (List.drop 4 (Datum.items d))) k default) ∧ (List.length (List.map datumC (List.take k
 (List.drop 4 (Datum.items d)))) + 1) * 56 ≤ 140737488355328 ∧ rng IntKind.i64 ((↑k : Int) + 1) ∧ List.length (List.drop 4 (Datum.items d)) - (k + 1) < List.length (List.drop 4
 (Datum.items d)) - k ∧ Tc_sParseLa d (li ((↑k : Int) + 1)) (Ob.arr true 4 (List.map datumC (List.take k (List.drop 4 (Datum.items d))) ++ [datumF (List.getD (List.take
 (List.length (List.map datumC (Datum.items d)) - 4) (List.drop 4 (Datum.items d))) k default)])) = Lc_sParseLa d (k + 1) ∧ Ic_sParseLa d (List.length (List.drop 4 (Datum.items d))
 - (k + 1)) (Lc_sParseLa d (k + 1))) ∧ (decide ((↑k : Int) < (↑(List.length (List.take (List.length (List.map datumC (Datum.items d)) - 4) (List.drop 4 (List.map datumC
 (Datum.items d))))) : Int)) = false → True ∧ W0c_sParseLa d (vL (List.map strC (txs (List.getD (Datum.items d) 2 default)))) (vL (List.map strC (txs (List.getD (Datum.items d) 3
 default)))) (vL (List.map datumC (List.take k (List.drop 4 (Datum.items d))))) = W0c_sParseLa d (vL (List.map strC (txs (List.getD (Datum.items d) 2 default)))) (vL (List.map strC
 (txs (List.getD (Datum.items d) 3 default)))) (vL (List.map datumC (List.drop 4 (Datum.items d)))))) := by kernel_rfl
theorem Sc_sParseLa (d : Datum) (h : wD d ≤ 1048576)  : LoopSem Try.prog (loopAt Try.f43 0) (Ic_sParseLa d) (Yc_sParseLa d) := by
  refine LoopSem.ofHead wide fun k h => ⟨_, _, run_c_sParseLa d k, ?_⟩
  have g1 := wD_eq d
  have e : (d.items.drop 4).take (d.items.length - 4) = d.items.drop 4 := List.take_of_length_le (by rw [List.length_drop]; omega)
  have e2 : (d.items.drop 4).length = d.items.length - 4 := List.length_drop
  have e3 : k < (d.items.drop 4).length → (d.items.drop 4).getD k default ∈ d.items := fun h => List.mem_of_mem_drop (getD_mem' h)
  have e4 := @sumBy_mem _ wD d.items ((d.items.drop 4).getD k default)
  with_reducible repeat' (first | apply And.intro | exact flatI | exact flatS | exact rowLens | (intro; skip) | apply obsN | apply obsC | apply obA | apply obM | apply obB | apply svA | apply tupA | apply lcA | apply lcS | apply svC | apply liC | apply lbC | apply lsC | apply vIc | apply vBc | apply vSc | apply vLc | apply mapC | apply Hc_sParseLa | apply Ec_sParseLa | apply EW0c_sParseLa | apply c_sIsDatum | apply c_sTexts | apply c_pCopyD | apply c_sIsModule | apply c_sModD | apply c_pEqD)
  all_goals (try simp only [std] at *)
  all_goals (try (first | with_reducible apply c_sIsDatum | with_reducible apply c_sTexts | with_reducible apply c_pCopyD | with_reducible apply c_sIsModule | with_reducible apply c_sModD | with_reducible apply c_pEqD | (simp only [← List.map_append]; first | with_reducible apply c_sIsDatum | with_reducible apply c_sTexts | with_reducible apply c_pCopyD | with_reducible apply c_sIsModule | with_reducible apply c_sModD | with_reducible apply c_pEqD)))
  all_goals (try (first | with_reducible rfl | omega | assumption | (refine (decide_eq_true ?_).symm; assumption) | (refine (decide_eq_false ?_).symm; assumption) | (refine rowGet ?_; (first | omega | (simp only [std]; omega) | grind)) | (refine getC ?_ rfl; (first | omega | (simp only [std]; omega) | grind)) | (refine fill_step ?_ ?_; (first | omega | (simp only [std]; omega) | grind); (first | rfl | exact (Row.eq _).trans rfl)) | (refine fill_init ?_; (first | rfl | exact (Row.eq _).trans rfl)) | (show (_ : St) = _; rfl) | grind [take_get, snocI, snocS, rowSnoc]))
abbrev a1_c_sParse (d : Datum) := (Module.mk (Datum.text (List.getD (Datum.items d) 1 default)) (txs (List.getD (Datum.items d) 2 default)) (txs (List.getD (Datum.items d) 3
 default)) (List.drop 4 (Datum.items d)))
theorem run_c_sParse (d : Datum) : aexec Try.prog (Option.getD (Func.body Try.f43) Code.skip) (entry [] [datumA d] 61) [Orc.call [Mode.rd] [] (AV.sv (lb (isDat d))), Orc.br
 [Orc.bool true, Orc.ghost (Ghost.nilbox 1 1 true 1), Orc.ghost (Ghost.nilbox 1 2 true 1), Orc.ghost (Ghost.nilbox 1 3 true 1), Orc.ghost (Ghost.lock 2), Orc.ghost (Ghost.lock 3),
 Orc.ghost (Ghost.lock 4), Orc.fin []] [Orc.br [Orc.ghost (Ghost.nilbox 1 1 true 1), Orc.ghost (Ghost.nilbox 1 2 true 1), Orc.ghost (Ghost.nilbox 1 3 true 1), Orc.ghost (Ghost.lock
 2), Orc.ghost (Ghost.lock 3), Orc.ghost (Ghost.lock 4), Orc.fin []] [Orc.draw [(17, [18])], Orc.cells (datumF (List.getD (Datum.items d) 1 default)), Orc.cells (datumF (List.getD
 (Datum.items d) 2 default)), Orc.call [Mode.rd] [Ob.arr true 1 (List.map strC (txs (List.getD (Datum.items d) 2 default)))] (AV.sv (SV.one (AC.ref 0))), Orc.cells (datumF
 (List.getD (Datum.items d) 3 default)), Orc.call [Mode.rd] [Ob.arr true 1 (List.map strC (txs (List.getD (Datum.items d) 3 default)))] (AV.sv (SV.one (AC.ref 0))), Orc.ghost
 (Ghost.nilbox 18 3 true 4), Orc.ghost (Ghost.sel [0, 1, 18, 2, 10, 19] [1, 2, 4, 35, 36, 37]), Orc.loop (List.length (List.drop 4 (Datum.items d)) - 0) (Lc_sParseLa d 0)
 (Ic_sParseLa d) [(True, AEx.exit 0, W0c_sParseLa d (vL (List.map strC (txs (List.getD (Datum.items d) 2 default)))) (vL (List.map strC (txs (List.getD (Datum.items d) 3
 default)))) (vL (List.map datumC (List.drop 4 (Datum.items d)))), [Orc.draw [], Orc.call [Mode.rd] [] (AV.sv (lb (modOK (a1_c_sParse d)))), Orc.br [Orc.bool true, Orc.ghost
 (Ghost.nilbox 1 1 true 1), Orc.ghost (Ghost.nilbox 1 2 true 1), Orc.ghost (Ghost.nilbox 1 3 true 1), Orc.ghost (Ghost.lock 3), Orc.ghost (Ghost.lock 4), Orc.ghost (Ghost.lock 5),
 Orc.fin []] [Orc.call [Mode.rd] [] (AV.sv (SV.agg [vI 0, vI 0, vS (mkS []), vL (List.map datumC (modD (a1_c_sParse d)))])), Orc.call [Mode.rd, Mode.rd] [] (AV.sv (lb (decide
 (Datum.mk 0 0 (mkS []) (modD (a1_c_sParse d)) = d)))), Orc.br [Orc.ghost (Ghost.nilbox 1 1 true 1), Orc.ghost (Ghost.nilbox 1 2 true 1), Orc.ghost (Ghost.nilbox 1 3 true 1),
 Orc.ghost (Ghost.lock 3), Orc.ghost (Ghost.lock 4), Orc.ghost (Ghost.lock 5), Orc.fin []] [Orc.fin []]]])]]]] (finK Try.prog [ResultVar.cell 2 49, ResultVar.tmp 3] [] (AV.tup
 [SV.agg (vals (moduleF (parR d))), lb (parB d)])) = (P_c_sIsDatum d ∧ ((!isDat d) = true → true = true ∧ ObsEq [] [] ∧ AV.tup [SV.agg [vS (ByteArray.mk #[]), vL [], vL [], vL []],
 lb false] = AV.tup [SV.agg (vals (moduleF (parR d))), lb (parB d)]) ∧ ((!isDat d) = false → List.length (List.map datumC (Datum.items d)) ≤ 9223372036854775807 → (decide
 ((↑(List.length (List.map datumC (Datum.items d))) : Int) < 4) = true → ObsEq [] [] ∧ AV.tup [SV.agg [vS (ByteArray.mk #[]), vL [], vL [], vL []], lb false] = AV.tup [SV.agg (vals
 (moduleF (parR d))), lb (parB d)]) ∧ (decide ((↑(List.length (List.map datumC (Datum.items d))) : Int) < 4) = false → ((0 : Int) ≤ 1 ∧ (List.map datumC (Datum.items d))[1]? = some
 (datumF (List.getD (Datum.items d) 1 default))) ∧ ((0 : Int) ≤ 2 ∧ (List.map datumC (Datum.items d))[2]? = some (datumF (List.getD (Datum.items d) 2 default))) ∧ P_c_sTexts
 (List.getD (Datum.items d) 2 default) ∧ ((0 : Int) ≤ 3 ∧ (List.map datumC (Datum.items d))[3]? = some (datumF (List.getD (Datum.items d) 3 default))) ∧ P_c_sTexts (List.getD
 (Datum.items d) 3 default) ∧ (0 : Int) ≤ 4 ∧ (4 ≤ List.length (List.map datumC (Datum.items d)) ∧ List.length (List.map datumC (Datum.items d)) ≤ List.length (List.map datumC
 (Datum.items d)) ∧ ∀ (e : List Cell), e ∈ List.map datumC (Datum.items d) → List.length e = 4) ∧ (List.length (List.take (List.length (List.map datumC (Datum.items d)) - 4)
 (List.drop 4 (List.map datumC (Datum.items d)))) ≤ 9223372036854775807 → Tc_sParseLa d (li 0) (Ob.arr true 4 []) = Lc_sParseLa d 0 ∧ Ic_sParseLa d (List.length (List.drop 4
 (Datum.items d)) - 0) (Lc_sParseLa d 0) ∧ LoopSem Try.prog (loopAt Try.f43 0) (Ic_sParseLa d) (Yc_sParseLa d) ∧ (True → P_c_sIsModule (a1_c_sParse d) ∧ ((!modOK (a1_c_sParse d)) =
 true → true = true ∧ ObsEq [] [] ∧ AV.tup [SV.agg [vS (ByteArray.mk #[]), vL [], vL [], vL []], lb false] = AV.tup [SV.agg (vals (moduleF (parR d))), lb (parB d)]) ∧ ((!modOK
 (a1_c_sParse d)) = false → P_c_sModD (a1_c_sParse d) ∧ P_c_pEqD (Datum.mk 0 0 (mkS []) (modD (a1_c_sParse d))) d ∧ ((!decide (Datum.mk 0 0 (mkS []) (modD (a1_c_sParse d)) = d)) =
 true → ObsEq [] [] ∧ AV.tup [SV.agg [vS (ByteArray.mk #[]), vL [], vL [], vL []], lb false] = AV.tup [SV.agg (vals (moduleF (parR d))), lb (parB d)]) ∧ ((!decide (Datum.mk 0 0
 (mkS []) (modD (a1_c_sParse d)) = d)) = false → ObsEq [] [] ∧ AV.tup [SV.agg [vS (Datum.text (List.getD (Datum.items d) 1 default)), vL (List.map strC (txs (List.getD (Datum.items
 d) 2 default))), vL (List.map strC (txs (List.getD (Datum.items d) 3 default))), vL (List.map datumC (List.drop 4 (Datum.items d)))], lb true] = AV.tup [SV.agg (vals (moduleF
 (parR d))), lb (parB d)]))) ∧ True)))) := by kernel_rfl
theorem c_sParse (d : Datum) (h : wD d ≤ 1048576)  : P_c_sParse d := by
  refine CallOK.ofRun wide (run_c_sParse d) Try.call43 Try.func43 rfl rfl rfl ?_
  try delta a1_c_sParse
  have g1 := wD_eq d
  have g2 := @parM_w d
  have e : (d.items.drop 4).take (d.items.length - 4) = d.items.drop 4 := List.take_of_length_le (by rw [List.length_drop]; omega)
  have e2 : ∀ j, j < d.items.length → wD (d.items.getD j default) ≤ wD d := fun j hj => by have := @sumBy_mem _ wD d.items _ (getD_mem' hj); omega
  have p1 : parB d = false → SV.agg [vS (mkS []), vL [], vL [], vL []] = SV.agg (vals (moduleF (parR d))) := fun h => by unfold parR; rw [if_neg (by simp [h])]; rfl
  have p2 : parB d = true → SV.agg [vS (d.items.getD 1 default).text, vL ((txs (d.items.getD 2 default)).map strC), vL ((txs (d.items.getD 3 default)).map strC), vL ((d.items.drop 4).map datumC)] = SV.agg (vals (moduleF (parR d))) := fun h => by unfold parR; rw [if_pos h]; rfl
  have p3 : parB d = (isDat d && decide (4 ≤ (d.items.length : Int)) && modOK { name := (d.items.getD 1 default).text, imports := txs (d.items.getD 2 default), exports := txs (d.items.getD 3 default), body := d.items.drop 4 } && decide ({ kind := 0, number := 0, text := mkS [], items := modD { name := (d.items.getD 1 default).text, imports := txs (d.items.getD 2 default), exports := txs (d.items.getD 3 default), body := d.items.drop 4 } } = d)) := rfl
  have p4 : wM { name := (d.items.getD 1 default).text, imports := txs (d.items.getD 2 default), exports := txs (d.items.getD 3 default), body := d.items.drop 4 } = wM (parM d) := rfl
  with_reducible repeat' (first | apply And.intro | exact flatI | exact flatS | exact rowLens | (intro; skip) | apply obsN | apply obsC | apply obA | apply obM | apply obB | apply svA | apply tupA | apply lcA | apply lcS | apply svC | apply liC | apply lbC | apply lsC | apply vIc | apply vBc | apply vSc | apply vLc | apply mapC | apply Hc_sParseLa | apply Ec_sParseLa | apply Sc_sParseLa | apply EW0c_sParseLa | apply c_sIsDatum | apply c_sTexts | apply c_pCopyD | apply c_sIsModule | apply c_sModD | apply c_pEqD)
  all_goals (try simp only [std] at *)
  all_goals (try (first | with_reducible apply c_sIsDatum | with_reducible apply c_sTexts | with_reducible apply c_pCopyD | with_reducible apply c_sIsModule | with_reducible apply c_sModD | with_reducible apply c_pEqD | (simp only [← List.map_append]; first | with_reducible apply c_sIsDatum | with_reducible apply c_sTexts | with_reducible apply c_pCopyD | with_reducible apply c_sIsModule | with_reducible apply c_sModD | with_reducible apply c_pEqD)))
  all_goals (try (first | with_reducible rfl | omega | assumption | (refine (decide_eq_true ?_).symm; assumption) | (refine (decide_eq_false ?_).symm; assumption) | (refine rowGet ?_; (first | omega | (simp only [std]; omega) | grind)) | (refine getC ?_ rfl; (first | omega | (simp only [std]; omega) | grind)) | (refine fill_step ?_ ?_; (first | omega | (simp only [std]; omega) | grind); (first | rfl | exact (Row.eq _).trans rfl)) | (refine fill_init ?_; (first | rfl | exact (Row.eq _).trans rfl)) | (show (_ : St) = _; rfl) | grind [snocI, snocS, rowSnoc]))
def symB (d : Datum) : Bool := decide (d.kind = 0) && d.items.all fun x => decide (x.kind = 1)
def symT (d : Datum) : List ByteArray := if symB d = true then txs d else []
theorem symB_stop {d : Datum} {k : Nat} (h : k < d.items.length) (e : ¬ (d.items.getD k default).kind = 1) : symB d = false := by
  unfold symB; rw [Bool.and_eq_false_iff]; right
  rw [List.all_eq_false]; exact ⟨_, getD_mem' h, by simpa using e⟩
theorem symB_all {d : Datum} (h0 : d.kind = 0) (h : (d.items.take d.items.length).all (fun x => decide (x.kind = 1)) = true) : symB d = true := by
  rw [List.take_length] at h
  unfold symB; rw [h, h0]; rfl
abbrev P_c_iSymsIn (d : Datum) : Prop := CallOK Try.prog 143 [] [datumA d] [.arr true 1 ((symT d).map strC)] (.tup [.one (.ref 0), lb (symB d)])
def Tc_iSymsInLa (d : Datum) (x0 : SV) (x1 : Ob) : St := St.mk (regsOf 27 [(4, AV.sv (SV.one (AC.ref 0))), (11, AV.sv (ll (List.map datumC (Datum.items d)))), (12, AV.sv (li
 (↑(List.length (List.map datumC (Datum.items d))) : Int))), (13, AV.sv x0)]) [x1] 0 
def Lc_iSymsInLa (d : Datum) (k : Nat) : St := Tc_iSymsInLa d (li (↑k : Int)) (Ob.arr true 1 (List.map strC (List.map Datum.text (List.take k (Datum.items d))))) 
def Ic_iSymsInLa (d : Datum) : Nat → St → Prop := Head (Lc_iSymsInLa d) (fun k => k ≤ List.length (Datum.items d) ∧ List.length (Datum.items d) ≤ 9223372036854775807 ∧ Datum.kind d
 = 0 ∧ (List.all (List.take k (Datum.items d)) fun x => decide (Datum.kind x = 1)) = true) fun k => List.length (Datum.items d) - k 
def W0c_iSymsInLa (d : Datum) (x0 : Ob) : St := St.mk (regsOf 27 [(4, AV.sv (SV.one (AC.ref 0)))]) [x0] 0 
def W1c_iSymsInLa (d : Datum) (x0 : SV) (x1 : SV) : St := St.mk (regsOf 27 [(2, AV.sv x0), (3, AV.sv x1)]) [] 0 
def Yc_iSymsInLa (d : Datum) : List (Prop × AEx × St) := [(symB d = true, AEx.exit 0, W0c_iSymsInLa d (Ob.arr true 1 (List.map strC (txs d)))), (symB d = false, AEx.ret,
 W1c_iSymsInLa d (SV.one (AC.val (Cell.lit (Value.slice none 0 0)))) (lb false))]
theorem Hc_iSymsInLa {d : Datum} {k : Nat} {m : Nat} (h : (fun k => k ≤ List.length (Datum.items d) ∧ List.length (Datum.items d) ≤ 9223372036854775807 ∧ Datum.kind d = 0 ∧
 (List.all (List.take k (Datum.items d)) fun x => decide (Datum.kind x = 1)) = true) k) (hm : (fun k => List.length (Datum.items d) - k) k = m) : Ic_iSymsInLa d m (Lc_iSymsInLa d
 k) := hm ▸ Head.mk h
theorem Ec_iSymsInLa {d : Datum} {k : Nat} {x0 : SV} {x1 : Ob} (h0 : x0 = (li (↑k : Int))) (h1 : x1 = (Ob.arr true 1 (List.map strC (List.map Datum.text (List.take k (Datum.items
 d)))))) : Tc_iSymsInLa d x0 x1 = Lc_iSymsInLa d k := by
  rw [h0, h1]
  rfl
theorem EW0c_iSymsInLa {d : Datum} {x0 y0 : Ob} (h0 : x0 = y0) : W0c_iSymsInLa d x0 = W0c_iSymsInLa d y0 := by rw [h0]
theorem EW1c_iSymsInLa {d : Datum} {x0 y0 : SV} {x1 y1 : SV} (h0 : x0 = y0) (h1 : x1 = y1) : W1c_iSymsInLa d x0 x1 = W1c_iSymsInLa d y0 y1 := by rw [h0, h1]
theorem run_c_iSymsInLa (d : Datum) (k : Nat) : aexec Try.prog (loopAt Try.f143 0) (Lc_iSymsInLa d k) [Orc.br [Orc.cells (datumF (List.getD (Datum.items d) k default)), Orc.br
 [Orc.ghost (Ghost.sel [] [2, 3]), Orc.out 1] [Orc.ghost (Ghost.sel [3] [4, 11, 12, 13]), Orc.goto (List.length (Datum.items d) - (k + 1)) (Lc_iSymsInLa d (k + 1))]] [Orc.ghost
 (Ghost.sel [0] [4]), Orc.out 0]] (loopK (Ic_iSymsInLa d) (Yc_iSymsInLa d) (List.length (Datum.items d) - k)) = ((decide ((↑k : Int) < (↑(List.length (List.map datumC (Datum.items
 d))) : Int)) = true → (0 ≤ (↑k : Int) ∧ (List.map datumC (Datum.items d))[Int.toNat (↑k : Int)]? = some (datumF (List.getD (Datum.items d) k default))) ∧ (decide (Datum.kind
 (List.getD (Datum.items d) k default) ≠ 1) = true → symB d = false ∧ W1c_iSymsInLa d (SV.one (AC.val (Cell.lit (Value.slice none 0 0)))) (lb false) = W1c_iSymsInLa d (SV.one
 (AC.val (Cell.lit (Value.slice none 0 0)))) (lb false)) ∧ (decide (Datum.kind (List.getD (Datum.items d) k default) ≠ 1) = false → (List.length (List.map strC (List.map Datum.text
 (List.take k (Datum.items d)))) + 1) * 16 ≤ 140737488355328 ∧ rng IntKind.i64 ((↑k : Int) + 1) ∧ List.length (Datum.items d) - (k + 1) < List.length (Datum.items d) - k ∧
 Tc_iSymsInLa d (li ((↑k : Int) + 1)) (Ob.arr true 1 (List.map strC (List.map Datum.text (List.take k (Datum.items d))) ++ [[cS (Datum.text (List.getD (Datum.items d) k
 default))]])) = Lc_iSymsInLa d (k + 1) ∧ Ic_iSymsInLa d (List.length (Datum.items d) - (k + 1)) (Lc_iSymsInLa d (k + 1)))) ∧ (decide ((↑k : Int) < (↑(List.length (List.map datumC
 (Datum.items d))) : Int)) = false → symB d = true ∧ W0c_iSymsInLa d (Ob.arr true 1 (List.map strC (List.map Datum.text (List.take k (Datum.items d))))) = W0c_iSymsInLa d (Ob.arr
 true 1 (List.map strC (txs d))))) := by kernel_rfl
theorem Sc_iSymsInLa (d : Datum) (h : wD d ≤ 1048576)  : LoopSem Try.prog (loopAt Try.f143 0) (Ic_iSymsInLa d) (Yc_iSymsInLa d) := by
  refine LoopSem.ofHead wide fun k h => ⟨_, _, run_c_iSymsInLa d k, ?_⟩
  have g1 := wD_eq d
  have g2 := @txs_snoc d k
  have g3 := @symB_stop d k
  have g4 := @symB_all d
  have g5 : d.items.length ≤ k → d.items.take k = d.items := fun h => List.take_of_length_le h
  have g6 : txs d = d.items.map Datum.text := rfl
  with_reducible repeat' (first | apply And.intro | exact flatI | exact flatS | exact rowLens | (intro; skip) | apply obsN | apply obsC | apply obA | apply obM | apply obB | apply svA | apply tupA | apply lcA | apply lcS | apply svC | apply liC | apply lbC | apply lsC | apply vIc | apply vBc | apply vSc | apply vLc | apply mapC | apply Hc_iSymsInLa | apply Ec_iSymsInLa | apply EW0c_iSymsInLa | apply EW1c_iSymsInLa)
  all_goals (try simp only [std] at *)
  all_goals (try (first | with_reducible rfl | omega | assumption | (refine (decide_eq_true ?_).symm; assumption) | (refine (decide_eq_false ?_).symm; assumption) | (refine rowGet ?_; (first | omega | (simp only [std]; omega) | grind)) | (refine getC ?_ rfl; (first | omega | (simp only [std]; omega) | grind)) | (refine fill_step ?_ ?_; (first | omega | (simp only [std]; omega) | grind); (first | rfl | exact (Row.eq _).trans rfl)) | (refine fill_init ?_; (first | rfl | exact (Row.eq _).trans rfl)) | (show (_ : St) = _; rfl) | grind [take_get, snocI, snocS, rowSnoc]))
theorem run_c_iSymsIn (d : Datum) : aexec Try.prog (Option.getD (Func.body Try.f143) Code.skip) (entry [] [datumA d] 27) [Orc.br [Orc.ghost (Ghost.nilreg 2 true 1), Orc.fin [1]]
 [Orc.ghost (Ghost.nilreg 4 true 1), Orc.ghost (Ghost.sel [1] [4, 11, 12, 13]), Orc.loop (List.length (Datum.items d) - 0) (Lc_iSymsInLa d 0) (Ic_iSymsInLa d) [(symB d = true,
 AEx.exit 0, W0c_iSymsInLa d (Ob.arr true 1 (List.map strC (txs d))), [Orc.fin [0]]), (symB d = false, AEx.ret, W1c_iSymsInLa d (SV.one (AC.val (Cell.lit (Value.slice none 0 0))))
 (lb false), [Orc.ghost (Ghost.nilreg 2 true 1), Orc.fin [0]])]]] (finK Try.prog [ResultVar.tmp 2, ResultVar.tmp 3] [Ob.arr true 1 (List.map strC (symT d))] (AV.tup [SV.one (AC.ref
 0), lb (symB d)])) = ((decide (Datum.kind d ≠ 0) = true → ObsEq [Ob.arr true 1 []] [Ob.arr true 1 (List.map strC (symT d))] ∧ AV.tup [SV.one (AC.ref 0), lb false] = AV.tup [SV.one
 (AC.ref 0), lb (symB d)]) ∧ (decide (Datum.kind d ≠ 0) = false → List.length (List.map datumC (Datum.items d)) ≤ 9223372036854775807 → Tc_iSymsInLa d (li 0) (Ob.arr true 1 []) =
 Lc_iSymsInLa d 0 ∧ Ic_iSymsInLa d (List.length (Datum.items d) - 0) (Lc_iSymsInLa d 0) ∧ LoopSem Try.prog (loopAt Try.f143 0) (Ic_iSymsInLa d) (Yc_iSymsInLa d) ∧ (symB d = true →
 ObsEq [Ob.arr true 1 (List.map strC (txs d))] [Ob.arr true 1 (List.map strC (symT d))] ∧ AV.tup [SV.one (AC.ref 0), lb true] = AV.tup [SV.one (AC.ref 0), lb (symB d)]) ∧ (symB d =
 false → ObsEq [Ob.arr true 1 []] [Ob.arr true 1 (List.map strC (symT d))] ∧ AV.tup [SV.one (AC.ref 0), lb false] = AV.tup [SV.one (AC.ref 0), lb (symB d)]) ∧ True)) := by
 kernel_rfl
theorem c_iSymsIn (d : Datum) (h : wD d ≤ 1048576)  : P_c_iSymsIn d := by
  refine CallOK.ofRun wide (run_c_iSymsIn d) Try.call143 Try.func143 rfl rfl rfl ?_
  have g1 : symB d = true → symT d = txs d := fun h => by unfold symT; rw [if_pos h]
  have g2 : symB d = false → symT d = [] := fun h => by unfold symT; rw [if_neg (by simp [h])]
  have g3 : ¬ d.kind = 0 → symB d = false := fun h => by unfold symB; simp [h]
  have g4 : (d.items.take 0).map Datum.text = [] := rfl
  with_reducible repeat' (first | apply And.intro | exact flatI | exact flatS | exact rowLens | (intro; skip) | apply obsN | apply obsC | apply obA | apply obM | apply obB | apply svA | apply tupA | apply lcA | apply lcS | apply svC | apply liC | apply lbC | apply lsC | apply vIc | apply vBc | apply vSc | apply vLc | apply mapC | apply Hc_iSymsInLa | apply Ec_iSymsInLa | apply Sc_iSymsInLa | apply EW0c_iSymsInLa | apply EW1c_iSymsInLa)
  all_goals (try simp only [std] at *)
  all_goals (try (first | with_reducible rfl | omega | assumption | (refine (decide_eq_true ?_).symm; assumption) | (refine (decide_eq_false ?_).symm; assumption) | (refine rowGet ?_; (first | omega | (simp only [std]; omega) | grind)) | (refine getC ?_ rfl; (first | omega | (simp only [std]; omega) | grind)) | (refine fill_step ?_ ?_; (first | omega | (simp only [std]; omega) | grind); (first | rfl | exact (Row.eq _).trans rfl)) | (refine fill_init ?_; (first | rfl | exact (Row.eq _).trans rfl)) | (show (_ : St) = _; rfl) | grind [snocI, snocS, rowSnoc]))
def parI (d : Datum) : Bool := isDat d && decide (d.kind = 0) && decide (4 ≤ (d.items.length : Int)) && decide ((d.items.getD 0 default).kind = 1) && decide ((d.items.getD 0 default).text = moduleS) && decide ((d.items.getD 1 default).kind = 1) && symB (d.items.getD 2 default) && symB (d.items.getD 3 default) && modOK (parM d)
theorem okD_at {d : Datum} (h : okD d = true) {j : Nat} (hj : j < d.items.length) : okD (d.items.getD j default) = true := by
  rw [okD_eq, Bool.and_eq_true, List.all_eq_true] at h; exact h.1 _ (getD_mem' hj)
theorem okD_sym {x : Datum} (h : okD x = true) (hk : x.kind = 1) : x = symD x.text := by
  rw [okD_eq] at h
  simp only [nodD, Bool.and_eq_true, Bool.or_eq_true, decide_eq_true_eq] at h
  have h2 : x.number = 0 ∧ x.items.length = 0 := by omega
  rw [datumExt]; exact ⟨hk, h2.1, rfl, List.length_eq_zero_iff.1 h2.2⟩
theorem okD_lst {x : Datum} (h : okD x = true) (hk : x.kind = 0) : x.number = 0 ∧ x.text = mkS [] := by
  rw [okD_eq] at h
  simp only [nodD, Bool.and_eq_true, Bool.or_eq_true, decide_eq_true_eq] at h
  have h2 : x.number = 0 ∧ x.text.data.toList = [] := by
    rcases h.2 with (((h | h) | h) | h) | h
    · exact ⟨h.2.1, h.2.2⟩
    · omega
    · omega
    · omega
    · omega
  exact ⟨h2.1, (bytes_ext _ _).1 h2.2⟩
theorem okD_syms {x : Datum} (h : okD x = true) (hs : symB x = true) : x = lstD ((txs x).map symD) := by
  simp only [symB, Bool.and_eq_true, decide_eq_true_eq, List.all_eq_true] at hs
  have h1 := okD_lst h hs.1
  have h2 : ∀ y ∈ x.items, symD y.text = y := fun y hy => (okD_sym (by rw [okD_eq, Bool.and_eq_true, List.all_eq_true] at h; exact h.1 y hy) (hs.2 y hy)).symm
  have h3 : (txs x).map symD = x.items := by
    unfold txs; rw [List.map_map]
    exact (List.map_congr_left h2).trans (List.map_id' _)
  rw [datumExt]; exact ⟨hs.1, h1.1, h1.2, h3.symm⟩
theorem drop4 {L : List Datum} (h : 4 ≤ L.length) : L = [L.getD 0 default, L.getD 1 default, L.getD 2 default, L.getD 3 default] ++ L.drop 4 := by
  have h0 := drop_get (L := L) (k := 0) (by omega)
  have h1 := drop_get (L := L) (k := 1) (by omega)
  have h2 := drop_get (L := L) (k := 2) (by omega)
  have h3 := drop_get (L := L) (k := 3) (by omega)
  rw [List.drop_zero] at h0
  simp only [Nat.zero_add, Nat.reduceAdd] at h0 h1 h2 h3
  calc L = L.getD 0 default :: L.drop 1 := h0
    _ = _ := by rw [h1, h2, h3]; rfl
theorem par_same (d : Datum) : parI d = parB d := by
  rw [Bool.eq_iff_iff]
  simp only [parI, parB, Bool.and_eq_true, decide_eq_true_eq]
  constructor
  · rintro ⟨⟨⟨⟨⟨⟨⟨⟨h1, h2⟩, h3⟩, h4⟩, h5⟩, h6⟩, h7⟩, h8⟩, h9⟩
    refine ⟨⟨⟨h1, h3⟩, h9⟩, ?_⟩
    have hok : okD d = true := by simp only [isDat, Bool.and_eq_true] at h1; exact h1.2
    have hl : 4 ≤ d.items.length := by omega
    have a := okD_lst hok h2
    have b0 := okD_sym (okD_at hok (by omega : 0 < d.items.length)) h4
    have b1 := okD_sym (okD_at hok (by omega : 1 < d.items.length)) h6
    have b2 := okD_syms (okD_at hok (by omega : 2 < d.items.length)) h7
    have b3 := okD_syms (okD_at hok (by omega : 3 < d.items.length)) h8
    rw [h5] at b0
    rw [datumExt]
    refine ⟨h2.symm, a.1.symm, a.2.symm, ?_⟩
    show modD (parM d) = d.items
    conv => rhs; rw [drop4 hl]
    simp only [modD, parM]
    rw [← b0, ← b1, ← b2, ← b3]
  · rintro ⟨⟨⟨h1, h3⟩, h9⟩, h10⟩
    have hl : 4 ≤ d.items.length := by omega
    have e : modD (parM d) = d.items := (datumExt _ _).1 h10 |>.2.2.2
    have e0 : d.items.getD 0 default = symD moduleS := by rw [← e]; rfl
    have e1 : d.items.getD 1 default = symD (parM d).name := by rw [← e]; rfl
    have e2 : d.items.getD 2 default = lstD ((parM d).imports.map symD) := by rw [← e]; rfl
    have e3 : d.items.getD 3 default = lstD ((parM d).exports.map symD) := by rw [← e]; rfl
    have hs : ∀ L : List ByteArray, symB (lstD (L.map symD)) = true := fun L => by
      simp only [symB, lstD, Bool.and_eq_true, List.all_eq_true, decide_eq_true_eq]
      refine ⟨trivial, fun x hx => ?_⟩
      obtain ⟨y, _, rfl⟩ := List.mem_map.1 hx; rfl
    refine ⟨⟨⟨⟨⟨⟨⟨⟨h1, ?_⟩, h3⟩, ?_⟩, ?_⟩, ?_⟩, ?_⟩, ?_⟩, h9⟩
    · rw [← h10]; rfl
    · rw [e0]; rfl
    · rw [e0]; rfl
    · rw [e1]; rfl
    · rw [e2]; exact hs _
    · rw [e3]; exact hs _
abbrev P_c_iParse (d : Datum) : Prop := CallOK Try.prog 45 [] [datumA d] (moduleO (parR d)) (.tup [moduleR (parR d) 0, lb (parB d)])
abbrev a1_c_iParse (d : Datum) := [Ob.arr true 1 (List.map strC (Module.imports (parR d))), Ob.arr true 1 (List.map strC (Module.exports (parR d))), Ob.arr true 4 (List.map datumC
 (Module.body (parR d)))]
abbrev a2_c_iParse (d : Datum) := [SV.agg [vS (Module.name (parR d)), AC.ref 0, AC.ref 1, AC.ref 2], lb (parB d)]
abbrev a13_c_iParse (d : Datum) := (List.getD (Datum.items d) 1 default)
abbrev a10_c_iParse (d : Datum) := (List.getD (Datum.items d) 2 default)
abbrev a11_c_iParse (d : Datum) := (List.getD (Datum.items d) 3 default)
abbrev a9_c_iParse (d : Datum) := (List.take (List.length (List.map datumC (Datum.items d)) - 4) (List.drop 4 (Datum.items d)))
abbrev a3_c_iParse (d : Datum) := (Module.mk (Datum.text (a13_c_iParse d)) (symT (a10_c_iParse d)) (symT (a11_c_iParse d)) (a9_c_iParse d))
abbrev a4_c_iParse  := [SV.agg [vS (ByteArray.mk #[]), AC.ref 0, AC.ref 1, AC.ref 2], lb false]
abbrev a5_c_iParse  := [Ob.arr true 1 [], Ob.arr true 1 [], Ob.arr true 4 []]
abbrev a6_c_iParse  := (Ghost.nilbox 1 1 true 1)
abbrev a7_c_iParse  := (Ghost.nilbox 1 2 true 1)
abbrev a8_c_iParse  := (Ghost.nilbox 1 3 true 4)
abbrev a12_c_iParse (d : Datum) := (List.getD (Datum.items d) 0 default)
theorem run_c_iParse (d : Datum) : aexec Try.prog (Option.getD (Func.body Try.f45) Code.skip) (entry [] [datumA d] 89) [Orc.call [Mode.rd] [] (AV.sv (lb (isDat d))), Orc.br
 [Orc.bool true, Orc.bool true, Orc.bool true, Orc.bool true, Orc.bool true, Orc.ghost a6_c_iParse, Orc.ghost a7_c_iParse, Orc.ghost a8_c_iParse, Orc.fin [2, 3, 4]] [Orc.br
 [Orc.bool true, Orc.bool true, Orc.bool true, Orc.bool true, Orc.ghost a6_c_iParse, Orc.ghost a7_c_iParse, Orc.ghost a8_c_iParse, Orc.fin [2, 3, 4]] [Orc.br [Orc.bool true,
 Orc.bool true, Orc.bool true, Orc.ghost a6_c_iParse, Orc.ghost a7_c_iParse, Orc.ghost a8_c_iParse, Orc.fin [2, 3, 4]] [Orc.cells (datumF (a12_c_iParse d)), Orc.br [Orc.bool true,
 Orc.bool true, Orc.ghost a6_c_iParse, Orc.ghost a7_c_iParse, Orc.ghost a8_c_iParse, Orc.fin [2, 3, 4]] [Orc.cells (datumF (a12_c_iParse d)), Orc.br [Orc.bool true, Orc.ghost
 a6_c_iParse, Orc.ghost a7_c_iParse, Orc.ghost a8_c_iParse, Orc.fin [2, 3, 4]] [Orc.cells (datumF (a13_c_iParse d)), Orc.br [Orc.ghost a6_c_iParse, Orc.ghost a7_c_iParse, Orc.ghost
 a8_c_iParse, Orc.fin [2, 3, 4]] [Orc.cells (datumF (a10_c_iParse d)), Orc.call [Mode.rd] [Ob.arr true 1 (List.map strC (symT (a10_c_iParse d)))] (AV.tup [SV.one (AC.ref 0), lb
 (symB (a10_c_iParse d))]), Orc.cells (datumF (a11_c_iParse d)), Orc.call [Mode.rd] [Ob.arr true 1 (List.map strC (symT (a11_c_iParse d)))] (AV.tup [SV.one (AC.ref 0), lb (symB
 (a11_c_iParse d))]), Orc.draw [(13, [12])], Orc.cells (datumF (a13_c_iParse d)), Orc.call [Mode.rd] [Ob.arr true 4 (List.map datumC (a9_c_iParse d))] (AV.sv (SV.one (AC.ref 0))),
 Orc.br [Orc.bool true, Orc.bool true, Orc.ghost a6_c_iParse, Orc.ghost a7_c_iParse, Orc.ghost a8_c_iParse, Orc.fin [13, 14, 15]] [Orc.br [Orc.bool true, Orc.ghost a6_c_iParse,
 Orc.ghost a7_c_iParse, Orc.ghost a8_c_iParse, Orc.fin [13, 14, 15]] [Orc.call [Mode.rd] [] (AV.sv (lb (modOK (a3_c_iParse d)))), Orc.br [Orc.ghost a6_c_iParse, Orc.ghost
 a7_c_iParse, Orc.ghost a8_c_iParse, Orc.fin [13, 14, 15]] [Orc.fin [2, 3, 4]]]]]]]]]]] (finK Try.prog [ResultVar.cell 2 49, ResultVar.tmp 3] (moduleO (parR d)) (AV.tup [moduleR
 (parR d) 0, lb (parB d)])) = (P_c_iIsDatum d ∧ ((!isDat d) = true → true = true ∧ true = true ∧ true = true ∧ true = true ∧ true = true ∧ ObsEq a5_c_iParse (a1_c_iParse d) ∧
 AV.tup a4_c_iParse = AV.tup (a2_c_iParse d)) ∧ ((!isDat d) = false → (decide (Datum.kind d ≠ 0) = true → true = true ∧ true = true ∧ true = true ∧ true = true ∧ ObsEq a5_c_iParse
 (a1_c_iParse d) ∧ AV.tup a4_c_iParse = AV.tup (a2_c_iParse d)) ∧ (decide (Datum.kind d ≠ 0) = false → List.length (List.map datumC (Datum.items d)) ≤ 9223372036854775807 → (decide
 ((↑(List.length (List.map datumC (Datum.items d))) : Int) < 4) = true → true = true ∧ true = true ∧ true = true ∧ ObsEq a5_c_iParse (a1_c_iParse d) ∧ AV.tup a4_c_iParse = AV.tup
 (a2_c_iParse d)) ∧ (decide ((↑(List.length (List.map datumC (Datum.items d))) : Int) < 4) = false → ((0 : Int) ≤ 0 ∧ (List.map datumC (Datum.items d))[0]? = some (datumF
 (a12_c_iParse d))) ∧ (decide (Datum.kind (a12_c_iParse d) ≠ 1) = true → true = true ∧ true = true ∧ ObsEq a5_c_iParse (a1_c_iParse d) ∧ AV.tup a4_c_iParse = AV.tup (a2_c_iParse
 d)) ∧ (decide (Datum.kind (a12_c_iParse d) ≠ 1) = false → ((0 : Int) ≤ 0 ∧ (List.map datumC (Datum.items d))[0]? = some (datumF (a12_c_iParse d))) ∧ (decide (Array.toList
 (ByteArray.data (Datum.text (a12_c_iParse d))) ≠ [(109 : UInt8), (111 : UInt8), (100 : UInt8), (117 : UInt8), (108 : UInt8), (101 : UInt8)]) = true → true = true ∧ ObsEq
 a5_c_iParse (a1_c_iParse d) ∧ AV.tup a4_c_iParse = AV.tup (a2_c_iParse d)) ∧ (decide (Array.toList (ByteArray.data (Datum.text (a12_c_iParse d))) ≠ [(109 : UInt8), (111 : UInt8),
 (100 : UInt8), (117 : UInt8), (108 : UInt8), (101 : UInt8)]) = false → ((0 : Int) ≤ 1 ∧ (List.map datumC (Datum.items d))[1]? = some (datumF (a13_c_iParse d))) ∧ (decide
 (Datum.kind (a13_c_iParse d) ≠ 1) = true → ObsEq a5_c_iParse (a1_c_iParse d) ∧ AV.tup a4_c_iParse = AV.tup (a2_c_iParse d)) ∧ (decide (Datum.kind (a13_c_iParse d) ≠ 1) = false →
 ((0 : Int) ≤ 2 ∧ (List.map datumC (Datum.items d))[2]? = some (datumF (a10_c_iParse d))) ∧ P_c_iSymsIn (a10_c_iParse d) ∧ ((0 : Int) ≤ 3 ∧ (List.map datumC (Datum.items d))[3]? =
 some (datumF (a11_c_iParse d))) ∧ P_c_iSymsIn (a11_c_iParse d) ∧ ((0 : Int) ≤ 1 ∧ (List.map datumC (Datum.items d))[1]? = some (datumF (a13_c_iParse d))) ∧ (0 : Int) ≤ 4 ∧ (4 ≤
 List.length (List.map datumC (Datum.items d)) ∧ List.length (List.map datumC (Datum.items d)) ≤ List.length (List.map datumC (Datum.items d)) ∧ ∀ (e : List Cell), e ∈ List.map
 datumC (Datum.items d) → List.length e = 4) ∧ CallOK Try.prog 144 [] [ll (List.take (List.length (List.map datumC (Datum.items d)) - 4) (List.drop 4 (List.map datumC (Datum.items
 d))))] [Ob.arr true 4 (List.map datumC (a9_c_iParse d))] (AV.sv (SV.one (AC.ref 0))) ∧ ((!symB (a10_c_iParse d)) = true → true = true ∧ true = true ∧ ObsEq a5_c_iParse
 (a1_c_iParse d) ∧ AV.tup a4_c_iParse = AV.tup (a2_c_iParse d)) ∧ ((!symB (a10_c_iParse d)) = false → ((!symB (a11_c_iParse d)) = true → true = true ∧ ObsEq a5_c_iParse
 (a1_c_iParse d) ∧ AV.tup a4_c_iParse = AV.tup (a2_c_iParse d)) ∧ ((!symB (a11_c_iParse d)) = false → P_c_iIsModule (a3_c_iParse d) ∧ ((!modOK (a3_c_iParse d)) = true → ObsEq
 a5_c_iParse (a1_c_iParse d) ∧ AV.tup a4_c_iParse = AV.tup (a2_c_iParse d)) ∧ ((!modOK (a3_c_iParse d)) = false → ObsEq [Ob.arr true 1 (List.map strC (symT (a10_c_iParse d))),
 Ob.arr true 1 (List.map strC (symT (a11_c_iParse d))), Ob.arr true 4 (List.map datumC (a9_c_iParse d))] (a1_c_iParse d) ∧ AV.tup [SV.agg [vS (Datum.text (a13_c_iParse d)), AC.ref
 0, AC.ref 1, AC.ref 2], lb true] = AV.tup (a2_c_iParse d))))))))))) := by kernel_rfl
theorem c_iParse (d : Datum) (h : wD d ≤ 1048576)  : P_c_iParse d := by
  refine CallOK.ofRun wide (run_c_iParse d) Try.call45 Try.func45 rfl rfl rfl ?_
  try delta a1_c_iParse a2_c_iParse a13_c_iParse a10_c_iParse a11_c_iParse a9_c_iParse a3_c_iParse a4_c_iParse a5_c_iParse a6_c_iParse a7_c_iParse a8_c_iParse a12_c_iParse
  have g1 := wD_eq d
  have g2 := @parM_w d
  have e : (d.items.drop 4).take (d.items.length - 4) = d.items.drop 4 := List.take_of_length_le (by rw [List.length_drop]; omega)
  have e2 : ∀ j, j < d.items.length → wD (d.items.getD j default) ≤ wD d := fun j hj => by have := @sumBy_mem _ wD d.items _ (getD_mem' hj); omega
  have p0 := par_same d
  have q1 : parB d = false → (parR d).name = mkS [] ∧ (parR d).imports = [] ∧ (parR d).exports = [] ∧ (parR d).body = [] := fun h => by unfold parR; rw [if_neg (by simp [h])]; exact ⟨rfl, rfl, rfl, rfl⟩
  have q2 : parB d = true → (parR d).name = (d.items.getD 1 default).text ∧ (parR d).imports = txs (d.items.getD 2 default) ∧ (parR d).exports = txs (d.items.getD 3 default) ∧ (parR d).body = d.items.drop 4 := fun h => by unfold parR; rw [if_pos h]; exact ⟨rfl, rfl, rfl, rfl⟩
  have q3 : parB d = (isDat d && decide (d.kind = 0) && decide (4 ≤ (d.items.length : Int)) && decide ((d.items.getD 0 default).kind = 1) && decide ((d.items.getD 0 default).text = moduleS) && decide ((d.items.getD 1 default).kind = 1) && symB (d.items.getD 2 default) && symB (d.items.getD 3 default) && modOK { name := (d.items.getD 1 default).text, imports := txs (d.items.getD 2 default), exports := txs (d.items.getD 3 default), body := d.items.drop 4 }) := by rw [← p0]; rfl
  have q4 : wM { name := (d.items.getD 1 default).text, imports := txs (d.items.getD 2 default), exports := txs (d.items.getD 3 default), body := d.items.drop 4 } = wM (parM d) := rfl
  have q5 : ∀ x : Datum, symB x = true → symT x = txs x := fun x h => by unfold symT; rw [if_pos h]
  have q6 : ∀ x : Datum, symB x = false → symT x = [] := fun x h => by unfold symT; rw [if_neg (by simp [h])]
  have q7 : ∀ t : ByteArray, t.data.toList = [109, 111, 100, 117, 108, 101] ↔ t = moduleS := fun t => bytes_ext t moduleS
  have q8 : (d.items.drop 4).length + sumBy wD (d.items.drop 4) ≤ wD d := by
    have a1 := sumBy_append wD (d.items.take 4) (d.items.drop 4)
    rw [List.take_append_drop] at a1
    have a2 : (d.items.drop 4).length ≤ d.items.length := by rw [List.length_drop]; omega
    omega
  with_reducible repeat' (first | apply And.intro | exact flatI | exact flatS | exact rowLens | (intro; skip) | apply obsN | apply obsC | apply obA | apply obM | apply obB | apply svA | apply tupA | apply lcA | apply lcS | apply svC | apply liC | apply lbC | apply lsC | apply vIc | apply vBc | apply vSc | apply vLc | apply mapC | apply c_iIsDatum | apply c_iSymsIn | apply c_iCopyData | apply c_iCopyDatum | apply c_iIsModule)
  all_goals (try simp only [std] at *)
  all_goals (try (first | with_reducible apply c_iIsDatum | with_reducible apply c_iSymsIn | with_reducible apply c_iCopyData | with_reducible apply c_iCopyDatum | with_reducible apply c_iIsModule | (simp only [← List.map_append]; first | with_reducible apply c_iIsDatum | with_reducible apply c_iSymsIn | with_reducible apply c_iCopyData | with_reducible apply c_iCopyDatum | with_reducible apply c_iIsModule)))
  all_goals (try (first | with_reducible rfl | omega | assumption | (refine (decide_eq_true ?_).symm; assumption) | (refine (decide_eq_false ?_).symm; assumption) | (refine rowGet ?_; (first | omega | (simp only [std]; omega) | grind)) | (refine getC ?_ rfl; (first | omega | (simp only [std]; omega) | grind)) | (refine fill_step ?_ ?_; (first | omega | (simp only [std]; omega) | grind); (first | rfl | exact (Row.eq _).trans rfl)) | (refine fill_init ?_; (first | rfl | exact (Row.eq _).trans rfl)) | (show (_ : St) = _; rfl) | grind [snocI, snocS, rowSnoc]))
  all_goals exact fun x _ h => c_iCopyDatum x h
end Go.Proofs.Ytehpjofddjmbpaa
end
section
namespace Go.Proofs.Ytehpjofddjmbpaa
open Go Go.Proofs.Ytehpjofddjmbpaa.Ab
set_option linter.unusedVariables false
set_option linter.unusedSimpArgs false
set_option maxHeartbeats 4000000
abbrev P_c_markText (n : Int) : Prop := CallOK Try.prog 114 [] [li n] [] (.sv (ls (mText n)))
def Tc_markTextLa (n : Int) (x0 : SV) (x1 : SV) : St := St.mk (regsOf 20 [(0, AV.sv x0), (3, AV.sv x1)]) [] 0 
def Lc_markTextLa (n : Int) (k : Int × List UInt8) : St := Tc_markTextLa n (li (Prod.fst k)) (ls (mkS (Prod.snd k))) 
def Ic_markTextLa (n : Int) : Nat → St → Prop := Head (Lc_markTextLa n) (fun k => 0 ≤ Prod.fst k ∧ Prod.fst k ≤ n ∧ digs (Int.toNat (Prod.fst k)) ++ Prod.snd k = digs (Int.toNat
 n)) fun k => Int.toNat (Prod.fst k) 
def W0c_markTextLa (n : Int) (x0 : SV) : St := St.mk (regsOf 20 [(3, AV.sv x0)]) [] 0 
def Yc_markTextLa (n : Int) : List (Prop × AEx × St) := [(True, AEx.exit 0, W0c_markTextLa n (ls (mkS (digs (Int.toNat n)))))]
theorem Hc_markTextLa {n : Int} {k : Int × List UInt8} {m : Nat} (h : (fun k => 0 ≤ Prod.fst k ∧ Prod.fst k ≤ n ∧ digs (Int.toNat (Prod.fst k)) ++ Prod.snd k = digs (Int.toNat n))
 k) (hm : (fun k => Int.toNat (Prod.fst k)) k = m) : Ic_markTextLa n m (Lc_markTextLa n k) := hm ▸ Head.mk h
theorem Ec_markTextLa {n : Int} {k : Int × List UInt8} {x0 : SV} {x1 : SV} (h0 : x0 = (li (Prod.fst k))) (h1 : x1 = (ls (mkS (Prod.snd k)))) : Tc_markTextLa n x0 x1 = Lc_markTextLa
 n k := by
  rw [h0, h1]
  rfl
theorem EW0c_markTextLa {n : Int} {x0 y0 : SV} (h0 : x0 = y0) : W0c_markTextLa n x0 = W0c_markTextLa n y0 := by rw [h0]
theorem run_c_markTextLa (n : Int) (k : Int × List UInt8) : aexec Try.prog (loopAt Try.f114 0) (Lc_markTextLa n k) [Orc.br [Orc.bytes [UInt8.ofNat (Int.toNat (48 + Int.tmod
 (Prod.fst k) 10))], Orc.ghost (Ghost.sel [] [0, 3]), Orc.goto (Int.toNat (Int.tdiv (Prod.fst k) 10)) (Lc_markTextLa n (Int.tdiv (Prod.fst k) 10, [UInt8.ofNat (Int.toNat (48 +
 Int.tmod (Prod.fst k) 10))] ++ Prod.snd k))] [Orc.ghost (Ghost.sel [] [3]), Orc.out 0]] (loopK (Ic_markTextLa n) (Yc_markTextLa n) (Int.toNat (Prod.fst k))) = ((decide (0 <
 Prod.fst k) = true → (10 : Int) ≠ 0 ∧ rng IntKind.i64 (48 + Int.tmod (Prod.fst k) 10) ∧ rng IntKind.u8 (48 + Int.tmod (Prod.fst k) 10) ∧ [[Cell.lit (Value.int IntKind.u8 (48 +
 Int.tmod (Prod.fst k) 10))]] = [[Cell.lit (Value.int IntKind.u8 (↑(UInt8.toNat (UInt8.ofNat (Int.toNat (48 + Int.tmod (Prod.fst k) 10)))) : Int))]] ∧ 1 + List.length (Prod.snd k)
 ≤ 9223372036854775807 ∧ (10 : Int) ≠ 0 ∧ rng IntKind.i64 (Int.tdiv (Prod.fst k) 10) ∧ Int.toNat (Int.tdiv (Prod.fst k) 10) < Int.toNat (Prod.fst k) ∧ Tc_markTextLa n (li (Int.tdiv
 (Prod.fst k) 10)) (ls (ByteArray.mk (List.toArray ([UInt8.ofNat (Int.toNat (48 + Int.tmod (Prod.fst k) 10))] ++ Prod.snd k)))) = Lc_markTextLa n (Int.tdiv (Prod.fst k) 10,
 [UInt8.ofNat (Int.toNat (48 + Int.tmod (Prod.fst k) 10))] ++ Prod.snd k) ∧ Ic_markTextLa n (Int.toNat (Int.tdiv (Prod.fst k) 10)) (Lc_markTextLa n (Int.tdiv (Prod.fst k) 10,
 [UInt8.ofNat (Int.toNat (48 + Int.tmod (Prod.fst k) 10))] ++ Prod.snd k))) ∧ (decide (0 < Prod.fst k) = false → True ∧ W0c_markTextLa n (ls (mkS (Prod.snd k))) = W0c_markTextLa n
 (ls (mkS (digs (Int.toNat n)))))) := by kernel_rfl
theorem Sc_markTextLa (n : Int) (h0 : 0 ≤ n) (h : n ≤ 2147483647)  : LoopSem Try.prog (loopAt Try.f114 0) (Ic_markTextLa n) (Yc_markTextLa n) := by
  refine LoopSem.ofHead wide fun k h => ⟨_, _, run_c_markTextLa n k, ?_⟩
  obtain ⟨i, l⟩ := k
  simp only at *
  obtain ⟨g1, g2, g3⟩ := h
  have g4 : l.length ≤ 2147483647 := by
    have := congrArg List.length g3
    have := digs_len n.toNat
    simp only [List.length_append] at *
    omega
  simp only [Int.tmod_eq_emod_of_nonneg g1, Int.tdiv_eq_ediv_of_nonneg g1]
  refine ⟨fun g => ?_, fun g => ?_⟩
  · have g : 0 < i := of_decide_eq_true g
    refine ⟨by decide, by rw [rng64]; omega, by rw [rngu8]; omega, by rw [u8_int (by omega) (by omega)], by omega, by decide, by rw [rng64]; omega, by omega, ?_, ?_⟩
    · apply Ec_markTextLa <;> rfl
    · apply Hc_markTextLa
      · exact ⟨by show 0 ≤ i / 10; omega, by show i / 10 ≤ n; omega, by show digs (i / 10).toNat ++ ([_] ++ l) = _; rw [← g3, digs_int g, List.append_assoc]⟩
      · rfl
  · have g : ¬ 0 < i := of_decide_eq_false g
    refine ⟨trivial, ?_⟩
    have e : i = 0 := by omega
    subst e
    rw [show digs (0 : Int).toNat = [] from digs_zero] at g3
    rw [← g3]; rfl
theorem run_c_markText (n : Int) : aexec Try.prog (Option.getD (Func.body Try.f114) Code.skip) (entry [] [li n] 20) [Orc.br [Orc.fin []] [Orc.ghost (Ghost.sel [] [0, 3]), Orc.loop
 (Int.toNat n) (Lc_markTextLa n (n, [])) (Ic_markTextLa n) [(True, AEx.exit 0, W0c_markTextLa n (ls (mkS (digs (Int.toNat n)))), [Orc.fin []])]]] (finK Try.prog [ResultVar.tmp 2]
 [] (AV.sv (ls (mText n)))) = ((decide (n ≤ 0) = true → ObsEq [] [] ∧ AV.sv (ls (ByteArray.mk #[(109 : UInt8), (48 : UInt8)])) = AV.sv (ls (mText n))) ∧ (decide (n ≤ 0) = false →
 Tc_markTextLa n (li n) (ls (ByteArray.mk #[])) = Lc_markTextLa n (n, []) ∧ Ic_markTextLa n (Int.toNat n) (Lc_markTextLa n (n, [])) ∧ LoopSem Try.prog (loopAt Try.f114 0)
 (Ic_markTextLa n) (Yc_markTextLa n) ∧ (True → 1 + List.length (digs (Int.toNat n)) ≤ 9223372036854775807 ∧ ObsEq [] [] ∧ AV.sv (ls (ByteArray.mk (List.toArray ([(109 : UInt8)] ++
 digs (Int.toNat n))))) = AV.sv (ls (mText n))) ∧ True)) := by kernel_rfl
theorem c_markText (n : Int) (h0 : 0 ≤ n) (h : n ≤ 2147483647)  : P_c_markText n := by
  refine CallOK.ofRun wide (run_c_markText n) Try.call114 Try.func114 rfl rfl rfl ?_
  have g := digs_len n.toNat
  simp only [mText]
  with_reducible repeat' (first | apply And.intro | exact flatI | exact flatS | exact rowLens | (intro; skip) | apply obsN | apply obsC | apply obA | apply obM | apply obB | apply svA | apply tupA | apply lcA | apply lcS | apply svC | apply liC | apply lbC | apply lsC | apply vIc | apply vBc | apply vSc | apply vLc | apply mapC | apply Hc_markTextLa | apply Ec_markTextLa | apply Sc_markTextLa | apply EW0c_markTextLa)
  all_goals (try simp only [std, stdM] at *)
  all_goals (try (first | with_reducible rfl | omega | assumption | (refine (decide_eq_true ?_).symm; assumption) | (refine (decide_eq_false ?_).symm; assumption) | (refine rowGet ?_; (first | omega | (simp only [std, stdM]; omega) | grind)) | (refine getC ?_ rfl; (first | omega | (simp only [std, stdM]; omega) | grind)) | (refine fill_step ?_ ?_; (first | omega | (simp only [std, stdM]; omega) | grind); (first | rfl | exact (Row.eq _).trans rfl)) | (refine fill_init ?_; (first | rfl | exact (Row.eq _).trans rfl)) | (refine set_row ?_; (simp only [List.length_map, List.length_set, mkTo_len]; omega)) | (refine mkToRow ?_; (first | omega | (simp only [std, stdM]; omega) | grind)) | (refine mkTo_row ?_ rfl; (first | omega | (simp only [std, stdM]; omega) | grind)) | (refine mkTo_step ?_ ?_; (first | omega | (simp only [std, stdM]; omega) | grind); (first | grind [mkS, snocI, snocS, rowSnoc])) | grind [mkS, snocI, snocS, rowSnoc]))
abbrev P_c_markStringS (L : List ByteArray) (n : Int) : Prop := CallOK Try.prog 145 [.arr true 1 (L.map strC)] [.one (.ref 0), li n] [.arr true 1 ((seqM mkT cOne L n).map strC)] (.sv (li (n + L.length)))
def Tc_markStringSLa (L : List ByteArray) (n : Int) (x0 : SV) (x1 : SV) (x2 : Ob) : St := St.mk (regsOf 20 [(0, AV.sv (SV.one (AC.ref 0))), (1, AV.sv x1), (5, AV.sv x0)]) [x2] 1 
def Lc_markStringSLa (L : List ByteArray) (n : Int) (k : Nat) : St := Tc_markStringSLa L n (li (↑k : Int)) (li (n + (↑k : Int))) (Ob.arr true 1 (List.map strC (mkTo mkT cOne L n
 k))) 
def Ic_markStringSLa (L : List ByteArray) (n : Int) : Nat → St → Prop := Head (Lc_markStringSLa L n) (fun k => k ≤ List.length L ∧ List.length L ≤ 9223372036854775807) fun k =>
 List.length L - k 
def W0c_markStringSLa (L : List ByteArray) (n : Int) (x0 : SV) (x1 : Ob) : St := St.mk (regsOf 20 [(1, AV.sv x0)]) [x1] 1 
def Yc_markStringSLa (L : List ByteArray) (n : Int) : List (Prop × AEx × St) := [(True, AEx.exit 0, W0c_markStringSLa L n (li (n + (↑(List.length L) : Int))) (Ob.arr true 1
 (List.map strC (seqM mkT cOne L n))))]
theorem Hc_markStringSLa {L : List ByteArray} {n : Int} {k : Nat} {m : Nat} (h : (fun k => k ≤ List.length L ∧ List.length L ≤ 9223372036854775807) k) (hm : (fun k => List.length L
 - k) k = m) : Ic_markStringSLa L n m (Lc_markStringSLa L n k) := hm ▸ Head.mk h
theorem Ec_markStringSLa {L : List ByteArray} {n : Int} {k : Nat} {x0 : SV} {x1 : SV} {x2 : Ob} (h0 : x0 = (li (↑k : Int))) (h1 : x1 = (li (n + (↑k : Int)))) (h2 : x2 = (Ob.arr
 true 1 (List.map strC (mkTo mkT cOne L n k)))) : Tc_markStringSLa L n x0 x1 x2 = Lc_markStringSLa L n k := by
  rw [h0, h1, h2]
  rfl
theorem EW0c_markStringSLa {L : List ByteArray} {n : Int} {x0 y0 : SV} {x1 y1 : Ob} (h0 : x0 = y0) (h1 : x1 = y1) : W0c_markStringSLa L n x0 x1 = W0c_markStringSLa L n y0 y1 := by
 rw [h0, h1]
theorem run_c_markStringSLa (L : List ByteArray) (n : Int) (k : Nat) : aexec Try.prog (loopAt Try.f145 0) (Lc_markStringSLa L n k) [Orc.br [Orc.call [Mode.rd] [] (AV.sv (ls (mText
 (n + (↑k : Int))))), Orc.cells (strC (List.getD L (Int.toNat (↑k : Int)) default)), Orc.ghost (Ghost.sel [0] [0, 1, 5]), Orc.goto (List.length L - (k + 1)) (Lc_markStringSLa L n
 (k + 1))] [Orc.ghost (Ghost.sel [0] [1]), Orc.out 0]] (loopK (Ic_markStringSLa L n) (Yc_markStringSLa L n) (List.length L - k)) = (List.length (List.map strC (mkTo mkT cOne L n
 k)) ≤ 9223372036854775807 → (decide ((↑k : Int) < (↑(List.length (List.map strC (mkTo mkT cOne L n k))) : Int)) = true → P_c_markText (n + (↑k : Int)) ∧ (0 ≤ (↑k : Int) ∧
 Int.toNat (↑k : Int) < List.length (List.map strC (mkTo mkT cOne L n k))) ∧ (List.map strC (mkTo mkT cOne L n k))[Int.toNat (↑k : Int)]? = some [cS (List.getD L (Int.toNat (↑k :
 Int)) default)] ∧ rng IntKind.i64 (n + (↑k : Int) + 1) ∧ rng IntKind.i64 ((↑k : Int) + 1) ∧ List.length L - (k + 1) < List.length L - k ∧ Tc_markStringSLa L n (li ((↑k : Int) +
 1)) (li (n + (↑k : Int) + 1)) (Ob.arr true 1 (List.set (List.map strC (mkTo mkT cOne L n k)) (Int.toNat (↑k : Int)) [cS (mText (n + (↑k : Int)))])) = Lc_markStringSLa L n (k + 1)
 ∧ Ic_markStringSLa L n (List.length L - (k + 1)) (Lc_markStringSLa L n (k + 1))) ∧ (decide ((↑k : Int) < (↑(List.length (List.map strC (mkTo mkT cOne L n k))) : Int)) = false →
 True ∧ W0c_markStringSLa L n (li (n + (↑k : Int))) (Ob.arr true 1 (List.map strC (mkTo mkT cOne L n k))) = W0c_markStringSLa L n (li (n + (↑(List.length L) : Int))) (Ob.arr true 1
 (List.map strC (seqM mkT cOne L n))))) := by kernel_rfl
theorem Sc_markStringSLa (L : List ByteArray) (n : Int) (h0 : 0 ≤ n) (h : n + (↑(List.length L) : Int) ≤ 2147483647)  : LoopSem Try.prog (loopAt Try.f145 0) (Ic_markStringSLa L n)
 (Yc_markStringSLa L n) := by
  refine LoopSem.ofHead wide fun k h => ⟨_, _, run_c_markStringSLa L n k, ?_⟩
  with_reducible repeat' (first | apply And.intro | exact flatI | exact flatS | exact rowLens | (intro; skip) | apply obsN | apply obsC | apply obA | apply obM | apply obB | apply svA | apply tupA | apply lcA | apply lcS | apply svC | apply liC | apply lbC | apply lsC | apply vIc | apply vBc | apply vSc | apply vLc | apply mapC | apply Hc_markStringSLa | apply Ec_markStringSLa | apply EW0c_markStringSLa | apply c_markText)
  all_goals (try simp only [std, stdM] at *)
  all_goals (try (first | with_reducible rfl | omega | assumption | (refine (decide_eq_true ?_).symm; assumption) | (refine (decide_eq_false ?_).symm; assumption) | (refine rowGet ?_; (first | omega | (simp only [std, stdM]; omega) | grind)) | (refine getC ?_ rfl; (first | omega | (simp only [std, stdM]; omega) | grind)) | (refine fill_step ?_ ?_; (first | omega | (simp only [std, stdM]; omega) | grind); (first | rfl | exact (Row.eq _).trans rfl)) | (refine fill_init ?_; (first | rfl | exact (Row.eq _).trans rfl)) | (refine set_row ?_; (simp only [List.length_map, List.length_set, mkTo_len]; omega)) | (refine mkToRow ?_; (first | omega | (simp only [std, stdM]; omega) | grind)) | (refine mkTo_row ?_ rfl; (first | omega | (simp only [std, stdM]; omega) | grind)) | (refine mkTo_step ?_ ?_; (first | omega | (simp only [std, stdM]; omega) | grind); (first | grind [mkTo_all, mkT, cOne_take, strC, mkTo_get, snocI, snocS, rowSnoc])) | grind [mkTo_all, mkT, cOne_take, strC, mkTo_get, snocI, snocS, rowSnoc]))
theorem run_c_markStringS (L : List ByteArray) (n : Int) : aexec Try.prog (Option.getD (Func.body Try.f145) Code.skip) (entry [Ob.arr true 1 (List.map strC L)] [SV.one (AC.ref 0),
 li n] 20) [Orc.ghost (Ghost.sel [0] [0, 1, 5]), Orc.loop (List.length L - 0) (Lc_markStringSLa L n 0) (Ic_markStringSLa L n) [(True, AEx.exit 0, W0c_markStringSLa L n (li (n +
 (↑(List.length L) : Int))) (Ob.arr true 1 (List.map strC (seqM mkT cOne L n))), [Orc.fin []])]] (finK Try.prog [ResultVar.tmp 4] [Ob.arr true 1 (List.map strC (seqM mkT cOne L
 n))] (AV.sv (li (n + (↑(List.length L) : Int))))) = (Tc_markStringSLa L n (li 0) (li n) (Ob.arr true 1 (List.map strC L)) = Lc_markStringSLa L n 0 ∧ Ic_markStringSLa L n
 (List.length L - 0) (Lc_markStringSLa L n 0) ∧ LoopSem Try.prog (loopAt Try.f145 0) (Ic_markStringSLa L n) (Yc_markStringSLa L n) ∧ (True → ObsEq [Ob.arr true 1 (List.map strC
 (seqM mkT cOne L n))] [Ob.arr true 1 (List.map strC (seqM mkT cOne L n))] ∧ AV.sv (li (n + (↑(List.length L) : Int))) = AV.sv (li (n + (↑(List.length L) : Int)))) ∧ True) := by
 kernel_rfl
theorem c_markStringS (L : List ByteArray) (n : Int) (h0 : 0 ≤ n) (h : n + L.length ≤ 2147483647)  : P_c_markStringS L n := by
  refine CallOK.ofRun wide (run_c_markStringS L n) Try.call145 Try.func145 rfl rfl rfl ?_
  with_reducible repeat' (first | apply And.intro | exact flatI | exact flatS | exact rowLens | (intro; skip) | apply obsN | apply obsC | apply obA | apply obM | apply obB | apply svA | apply tupA | apply lcA | apply lcS | apply svC | apply liC | apply lbC | apply lsC | apply vIc | apply vBc | apply vSc | apply vLc | apply mapC | apply Hc_markStringSLa | apply Ec_markStringSLa | apply Sc_markStringSLa | apply EW0c_markStringSLa | apply c_markText)
  all_goals (try simp only [std, stdM] at *)
  all_goals (try (first | with_reducible rfl | omega | assumption | (refine (decide_eq_true ?_).symm; assumption) | (refine (decide_eq_false ?_).symm; assumption) | (refine rowGet ?_; (first | omega | (simp only [std, stdM]; omega) | grind)) | (refine getC ?_ rfl; (first | omega | (simp only [std, stdM]; omega) | grind)) | (refine fill_step ?_ ?_; (first | omega | (simp only [std, stdM]; omega) | grind); (first | rfl | exact (Row.eq _).trans rfl)) | (refine fill_init ?_; (first | rfl | exact (Row.eq _).trans rfl)) | (refine set_row ?_; (simp only [List.length_map, List.length_set, mkTo_len]; omega)) | (refine mkToRow ?_; (first | omega | (simp only [std, stdM]; omega) | grind)) | (refine mkTo_row ?_ rfl; (first | omega | (simp only [std, stdM]; omega) | grind)) | (refine mkTo_step ?_ ?_; (first | omega | (simp only [std, stdM]; omega) | grind); (first | grind [mkTo_zero, snocI, snocS, rowSnoc])) | grind [mkTo_zero, snocI, snocS, rowSnoc]))
abbrev P_c_markDatumS (x : Datum) (n : Int) : Prop := CallOK Try.prog 115 [.arr true 4 (x.items.map datumC)] [.one (.ref 0), li n] [.arr true 4 ((seqM mkD cD x.items n).map datumC)] (.sv (li (n + sumBy cD x.items)))
def Tc_markDatumS_sLa (x : Datum) (n : Int) (x0 : SV) (x1 : SV) (x2 : Ob) : St := St.mk (regsOf 42 [(0, AV.sv (SV.one (AC.ref 0))), (1, AV.sv x1), (5, AV.sv x0)]) [x2] 1 
def Lc_markDatumS_sLa (x : Datum) (n : Int) (k : Nat) : St := Tc_markDatumS_sLa x n (li (↑k : Int)) (li (n + (↑(sumBy cD (List.take k (Datum.items x))) : Int))) (Ob.arr true 4
 (List.map datumC (mkTo mkD cD (Datum.items x) n k))) 
def Ic_markDatumS_sLa (x : Datum) (n : Int) : Nat → St → Prop := Head (Lc_markDatumS_sLa x n) (fun k => k ≤ List.length (Datum.items x) ∧ List.length (Datum.items x) ≤
 9223372036854775807) fun k => List.length (Datum.items x) - k 
def W0c_markDatumS_sLa (x : Datum) (n : Int) (x0 : SV) (x1 : Ob) : St := St.mk (regsOf 42 [(1, AV.sv x0)]) [x1] 1 
def Yc_markDatumS_sLa (x : Datum) (n : Int) : List (Prop × AEx × St) := [(True, AEx.exit 0, W0c_markDatumS_sLa x n (li (n + (↑(sumBy cD (Datum.items x)) : Int))) (Ob.arr true 4
 (List.map datumC (seqM mkD cD (Datum.items x) n))))]
theorem Hc_markDatumS_sLa {x : Datum} {n : Int} {k : Nat} {m : Nat} (h : (fun k => k ≤ List.length (Datum.items x) ∧ List.length (Datum.items x) ≤ 9223372036854775807) k) (hm :
 (fun k => List.length (Datum.items x) - k) k = m) : Ic_markDatumS_sLa x n m (Lc_markDatumS_sLa x n k) := hm ▸ Head.mk h
theorem Ec_markDatumS_sLa {x : Datum} {n : Int} {k : Nat} {x0 : SV} {x1 : SV} {x2 : Ob} (h0 : x0 = (li (↑k : Int))) (h1 : x1 = (li (n + (↑(sumBy cD (List.take k (Datum.items x))) :
 Int)))) (h2 : x2 = (Ob.arr true 4 (List.map datumC (mkTo mkD cD (Datum.items x) n k)))) : Tc_markDatumS_sLa x n x0 x1 x2 = Lc_markDatumS_sLa x n k := by
  rw [h0, h1, h2]
  rfl
theorem EW0c_markDatumS_sLa {x : Datum} {n : Int} {x0 y0 : SV} {x1 y1 : Ob} (h0 : x0 = y0) (h1 : x1 = y1) : W0c_markDatumS_sLa x n x0 x1 = W0c_markDatumS_sLa x n y0 y1 := by rw
 [h0, h1]
abbrev a4__markDatumS_sLa (x : Datum) (k : Nat) := (↑(sumBy cD (List.take k (Datum.items x))) : Int)
abbrev a3__markDatumS_sLa (x : Datum) (k : Nat) := (List.getD (Datum.items x) (Int.toNat (↑k : Int)) default)
abbrev a8__markDatumS_sLa (x : Datum) (k : Nat) := (List.map datumC (Datum.items (a3__markDatumS_sLa x k)))
abbrev a1__markDatumS_sLa (x : Datum) (n : Int) (k : Nat) := [cI (n + (a4__markDatumS_sLa x k)), cI (n + (a4__markDatumS_sLa x k) + 1), cS (mText (n + (a4__markDatumS_sLa x k) + 1
 + 1)), Cell.list (a8__markDatumS_sLa x k)]
abbrev a2__markDatumS_sLa (x : Datum) (n : Int) (k : Nat) := [cI (n + (a4__markDatumS_sLa x k)), cI (n + (a4__markDatumS_sLa x k) + 1), cS (Datum.text (a3__markDatumS_sLa x k)),
 Cell.list (a8__markDatumS_sLa x k)]
abbrev a5__markDatumS_sLa (x : Datum) (n : Int) (k : Nat) := (List.map datumC (mkTo mkD cD (Datum.items x) n k))
abbrev a6__markDatumS_sLa (x : Datum) (n : Int) (k : Nat) := [cI (n + (a4__markDatumS_sLa x k)), cI (Datum.number (a3__markDatumS_sLa x k)), cS (Datum.text (a3__markDatumS_sLa x
 k)), Cell.list (a8__markDatumS_sLa x k)]
abbrev a7__markDatumS_sLa (x : Datum) (n : Int) (k : Nat) := (List.set (a5__markDatumS_sLa x n k) (Int.toNat (↑k : Int)) (a1__markDatumS_sLa x n k))
abbrev a9__markDatumS_sLa (x : Datum) (n : Int) (k : Nat) := (List.map datumC (seqM mkD cD (Datum.items (a3__markDatumS_sLa x k)) (n + (a4__markDatumS_sLa x k) + 1 + 1 + 1)))
abbrev a10__markDatumS_sLa (x : Datum) (n : Int) (k : Nat) := (li (n + (a4__markDatumS_sLa x k) + 1 + 1 + 1 + (↑(sumBy cD (Datum.items (a3__markDatumS_sLa x k))) : Int)))
theorem run_c_markDatumS_sLa (x : Datum) (n : Int) (k : Nat) : aexec Try.prog (loopAt Try.f115 0) (Lc_markDatumS_sLa x n k) [Orc.br [Orc.cells (datumF (a3__markDatumS_sLa x k)),
 Orc.take (a6__markDatumS_sLa x n k) (List.set (a5__markDatumS_sLa x n k) (Int.toNat (↑k : Int)) (a2__markDatumS_sLa x n k)) 0, Orc.call [Mode.rd] [] (AV.sv (ls (mText (n +
 (a4__markDatumS_sLa x k) + 1 + 1)))), Orc.take (a2__markDatumS_sLa x n k) (a7__markDatumS_sLa x n k) 0, Orc.sub, Orc.subcall (a1__markDatumS_sLa x n k) (a8__markDatumS_sLa x k) 4,
 Orc.call [Mode.own true 4, Mode.rd] [Ob.arr true 4 (a9__markDatumS_sLa x n k)] (AV.sv (a10__markDatumS_sLa x n k)), Orc.ghost (Ghost.sel [0] [0, 1, 5]), Orc.goto (List.length
 (Datum.items x) - (k + 1)) (Lc_markDatumS_sLa x n (k + 1))] [Orc.ghost (Ghost.sel [0] [1]), Orc.out 0]] (loopK (Ic_markDatumS_sLa x n) (Yc_markDatumS_sLa x n) (List.length
 (Datum.items x) - k)) = (List.length (a5__markDatumS_sLa x n k) ≤ 9223372036854775807 → (decide ((↑k : Int) < (↑(List.length (a5__markDatumS_sLa x n k)) : Int)) = true → (0 ≤ (↑k
 : Int) ∧ Int.toNat (↑k : Int) < List.length (a5__markDatumS_sLa x n k)) ∧ (a5__markDatumS_sLa x n k)[Int.toNat (↑k : Int)]? = some (datumF (a3__markDatumS_sLa x k)) ∧ rng
 IntKind.i64 (n + (a4__markDatumS_sLa x k) + 1) ∧ (0 ≤ (↑k : Int) ∧ Int.toNat (↑k : Int) < List.length (List.set (a5__markDatumS_sLa x n k) (Int.toNat (↑k : Int))
 (a6__markDatumS_sLa x n k))) ∧ (List.set (a5__markDatumS_sLa x n k) (Int.toNat (↑k : Int)) (a6__markDatumS_sLa x n k))[Int.toNat (↑k : Int)]? = some (a6__markDatumS_sLa x n k) ∧
 List.set (List.set (a5__markDatumS_sLa x n k) (Int.toNat (↑k : Int)) (a6__markDatumS_sLa x n k)) (Int.toNat (↑k : Int)) (a2__markDatumS_sLa x n k) = List.set (a5__markDatumS_sLa x
 n k) (Int.toNat (↑k : Int)) (a2__markDatumS_sLa x n k) ∧ rng IntKind.i64 (n + (a4__markDatumS_sLa x k) + 1 + 1) ∧ P_c_markText (n + (a4__markDatumS_sLa x k) + 1 + 1) ∧ (0 ≤ (↑k :
 Int) ∧ Int.toNat (↑k : Int) < List.length (List.set (a5__markDatumS_sLa x n k) (Int.toNat (↑k : Int)) (a2__markDatumS_sLa x n k))) ∧ (List.set (a5__markDatumS_sLa x n k)
 (Int.toNat (↑k : Int)) (a2__markDatumS_sLa x n k))[Int.toNat (↑k : Int)]? = some (a2__markDatumS_sLa x n k) ∧ List.set (List.set (a5__markDatumS_sLa x n k) (Int.toNat (↑k : Int))
 (a2__markDatumS_sLa x n k)) (Int.toNat (↑k : Int)) (a1__markDatumS_sLa x n k) = List.set (a5__markDatumS_sLa x n k) (Int.toNat (↑k : Int)) (a1__markDatumS_sLa x n k) ∧ rng
 IntKind.i64 (n + (a4__markDatumS_sLa x k) + 1 + 1 + 1) ∧ (0 ≤ (↑k : Int) ∧ Int.toNat (↑k : Int) < List.length (a7__markDatumS_sLa x n k)) ∧ Int.toNat (↑k : Int) < List.length
 (a7__markDatumS_sLa x n k) ∧ (a7__markDatumS_sLa x n k)[Int.toNat (↑k : Int)]? = some (a1__markDatumS_sLa x n k) ∧ some (Cell.list (a8__markDatumS_sLa x k)) = some (Cell.list
 (a8__markDatumS_sLa x k)) ∧ (∀ (x_1 : List Cell), x_1 ∈ List.map datumC (Datum.items (a3__markDatumS_sLa x k)) → List.length x_1 = 4) ∧ CallOK Try.prog 115 [Ob.arr true 4
 (a8__markDatumS_sLa x k)] [SV.one (AC.ref 0), li (n + (a4__markDatumS_sLa x k) + 1 + 1 + 1)] [Ob.arr true 4 (a9__markDatumS_sLa x n k)] (AV.sv (a10__markDatumS_sLa x n k)) ∧ rng
 IntKind.i64 ((↑k : Int) + 1) ∧ List.length (Datum.items x) - (k + 1) < List.length (Datum.items x) - k ∧ Tc_markDatumS_sLa x n (li ((↑k : Int) + 1)) (a10__markDatumS_sLa x n k)
 (Ob.arr true 4 (List.set (a7__markDatumS_sLa x n k) (Int.toNat (↑k : Int)) [cI (n + (a4__markDatumS_sLa x k)), cI (n + (a4__markDatumS_sLa x k) + 1), cS (mText (n +
 (a4__markDatumS_sLa x k) + 1 + 1)), Cell.list (a9__markDatumS_sLa x n k)])) = Lc_markDatumS_sLa x n (k + 1) ∧ Ic_markDatumS_sLa x n (List.length (Datum.items x) - (k + 1))
 (Lc_markDatumS_sLa x n (k + 1))) ∧ (decide ((↑k : Int) < (↑(List.length (a5__markDatumS_sLa x n k)) : Int)) = false → True ∧ W0c_markDatumS_sLa x n (li (n + (a4__markDatumS_sLa x
 k))) (Ob.arr true 4 (a5__markDatumS_sLa x n k)) = W0c_markDatumS_sLa x n (li (n + (↑(sumBy cD (Datum.items x)) : Int))) (Ob.arr true 4 (List.map datumC (seqM mkD cD (Datum.items
 x) n))))) := by kernel_rfl
theorem Sc_markDatumS_sLa (x : Datum) (n : Int) (h0 : 0 ≤ n) (h : n + (↑(sumBy cD (Datum.items x)) : Int) ≤ 2147483647) (ih : ∀ (z : Datum), z ∈ Datum.items x → ∀ (n : Int), 0 ≤ n
 → n + (↑(sumBy cD (Datum.items z)) : Int) ≤ 2147483647 → P_c_markDatumS z n)  : LoopSem Try.prog (loopAt Try.f115 0) (Ic_markDatumS_sLa x n) (Yc_markDatumS_sLa x n) := by
  refine LoopSem.ofHead wide fun k h => ⟨_, _, run_c_markDatumS_sLa x n k, ?_⟩
  try delta a4__markDatumS_sLa a3__markDatumS_sLa a8__markDatumS_sLa a1__markDatumS_sLa a2__markDatumS_sLa a5__markDatumS_sLa a6__markDatumS_sLa a7__markDatumS_sLa a9__markDatumS_sLa a10__markDatumS_sLa
  have g0 := sumBy_takeLe cD x.items (k + 1)
  with_reducible repeat' (first | apply And.intro | exact flatI | exact flatS | exact rowLens | exact ih | (intro; skip) | apply obsN | apply obsC | apply obA | apply obM | apply obB | apply svA | apply tupA | apply lcA | apply lcS | apply svC | apply liC | apply lbC | apply lsC | apply vIc | apply vBc | apply vSc | apply vLc | apply mapC | apply Hc_markDatumS_sLa | apply Ec_markDatumS_sLa | apply EW0c_markDatumS_sLa | apply c_markText | apply ih)
  all_goals (try simp only [std, stdM] at *)
  all_goals (try (first | with_reducible rfl | omega | assumption | (refine (decide_eq_true ?_).symm; assumption) | (refine (decide_eq_false ?_).symm; assumption) | (refine rowGet ?_; (first | omega | (simp only [std, stdM]; omega) | grind)) | (refine getC ?_ rfl; (first | omega | (simp only [std, stdM]; omega) | grind)) | (refine fill_step ?_ ?_; (first | omega | (simp only [std, stdM]; omega) | grind); (first | rfl | exact (Row.eq _).trans rfl)) | (refine fill_init ?_; (first | rfl | exact (Row.eq _).trans rfl)) | (refine set_row ?_; (simp only [List.length_map, List.length_set, mkTo_len]; omega)) | (refine mkToRow ?_; (first | omega | (simp only [std, stdM]; omega) | grind)) | (refine mkTo_row ?_ rfl; (first | omega | (simp only [std, stdM]; omega) | grind)) | (refine mkTo_step ?_ ?_; (first | omega | (simp only [std, stdM]; omega) | grind); (first | exact mkD_C _ _ | grind [sumBy_step, getD_mem', cD_eq, mkD_C, mkTo_all, snocI, snocS, rowSnoc])) | grind [sumBy_step, getD_mem', cD_eq, mkD_C, mkTo_all, snocI, snocS, rowSnoc]))
theorem run_c_markDatumS_s (x : Datum) (n : Int) : aexec Try.prog (Option.getD (Func.body Try.f115) Code.skip) (entry [Ob.arr true 4 (List.map datumC (Datum.items x))] [SV.one
 (AC.ref 0), li n] 42) [Orc.ghost (Ghost.sel [0] [0, 1, 5]), Orc.loop (List.length (Datum.items x) - 0) (Lc_markDatumS_sLa x n 0) (Ic_markDatumS_sLa x n) [(True, AEx.exit 0,
 W0c_markDatumS_sLa x n (li (n + (↑(sumBy cD (Datum.items x)) : Int))) (Ob.arr true 4 (List.map datumC (seqM mkD cD (Datum.items x) n))), [Orc.fin []])]] (finK Try.prog
 [ResultVar.tmp 4] [Ob.arr true 4 (List.map datumC (seqM mkD cD (Datum.items x) n))] (AV.sv (li (n + (↑(sumBy cD (Datum.items x)) : Int))))) = (Tc_markDatumS_sLa x n (li 0) (li n)
 (Ob.arr true 4 (List.map datumC (Datum.items x))) = Lc_markDatumS_sLa x n 0 ∧ Ic_markDatumS_sLa x n (List.length (Datum.items x) - 0) (Lc_markDatumS_sLa x n 0) ∧ LoopSem Try.prog
 (loopAt Try.f115 0) (Ic_markDatumS_sLa x n) (Yc_markDatumS_sLa x n) ∧ (True → ObsEq [Ob.arr true 4 (List.map datumC (seqM mkD cD (Datum.items x) n))] [Ob.arr true 4 (List.map
 datumC (seqM mkD cD (Datum.items x) n))] ∧ AV.sv (li (n + (↑(sumBy cD (Datum.items x)) : Int))) = AV.sv (li (n + (↑(sumBy cD (Datum.items x)) : Int)))) ∧ True) := by kernel_rfl
theorem c_markDatumS_s (x : Datum) (n : Int) (h0 : 0 ≤ n) (h : n + sumBy cD x.items ≤ 2147483647) (ih : ∀ z ∈ x.items, ∀ (n : Int) (h0 : 0 ≤ n) (h : n + sumBy cD z.items ≤
 2147483647), P_c_markDatumS z n)  : P_c_markDatumS x n := by
  refine CallOK.ofRun wide (run_c_markDatumS_s x n) Try.call115 Try.func115 rfl rfl rfl ?_
  have gl := cD_len x.items
  with_reducible repeat' (first | apply And.intro | exact flatI | exact flatS | exact rowLens | exact ih | (intro; skip) | apply obsN | apply obsC | apply obA | apply obM | apply obB | apply svA | apply tupA | apply lcA | apply lcS | apply svC | apply liC | apply lbC | apply lsC | apply vIc | apply vBc | apply vSc | apply vLc | apply mapC | apply Hc_markDatumS_sLa | apply Ec_markDatumS_sLa | apply Sc_markDatumS_sLa | apply EW0c_markDatumS_sLa | apply c_markText)
  all_goals (try simp only [std, stdM] at *)
  all_goals (try (first | with_reducible rfl | omega | assumption | (refine (decide_eq_true ?_).symm; assumption) | (refine (decide_eq_false ?_).symm; assumption) | (refine rowGet ?_; (first | omega | (simp only [std, stdM]; omega) | grind)) | (refine getC ?_ rfl; (first | omega | (simp only [std, stdM]; omega) | grind)) | (refine fill_step ?_ ?_; (first | omega | (simp only [std, stdM]; omega) | grind); (first | rfl | exact (Row.eq _).trans rfl)) | (refine fill_init ?_; (first | rfl | exact (Row.eq _).trans rfl)) | (refine set_row ?_; (simp only [List.length_map, List.length_set, mkTo_len]; omega)) | (refine mkToRow ?_; (first | omega | (simp only [std, stdM]; omega) | grind)) | (refine mkTo_row ?_ rfl; (first | omega | (simp only [std, stdM]; omega) | grind)) | (refine mkTo_step ?_ ?_; (first | omega | (simp only [std, stdM]; omega) | grind); (first | grind [mkTo_all, snocI, snocS, rowSnoc])) | grind [mkTo_all, snocI, snocS, rowSnoc]))
theorem c_markDatumS (x : Datum) : ∀ (n : Int) (h0 : 0 ≤ n) (h : n + sumBy cD x.items ≤ 2147483647), P_c_markDatumS x n := Datum.ind (P := fun x => ∀ (n : Int) (h0 : 0 ≤ n) (h : n + sumBy cD x.items ≤ 2147483647), P_c_markDatumS x n) (fun x ih n h0 h => c_markDatumS_s x n h0 h ih) x
theorem c_markDatumSL (L : List Datum) (n : Int) (h0 : 0 ≤ n) (h : n + sumBy cD L ≤ 2147483647) : P_c_markDatumS { (default : Datum) with items := L } n := c_markDatumS { (default : Datum) with items := L } n h0 h
abbrev P_c_markDatum (x : Datum) (n : Int) : Prop := CallOK Try.prog 47 [.arr true 4 (x.items.map datumC)] [.agg [vI x.kind, vI x.number, vS x.text, .ref 0], li n] [.arr true 4 ((seqM mkD cD x.items (n)).map datumC)] (.sv (li (n + sumBy cD x.items)))
theorem run_c_markDatum (x : Datum) (n : Int) : aexec Try.prog (Option.getD (Func.body Try.f47) Code.skip) (entry [Ob.arr true 4 (List.map datumC (Datum.items x))] [SV.agg [vI
 (Datum.kind x), vI (Datum.number x), vS (Datum.text x), AC.ref 0], li n] 10) [Orc.call [Mode.own true 4, Mode.rd] [Ob.arr true 4 (List.map datumC (seqM mkD cD (Datum.items x) n))]
 (AV.sv (li (n + (↑(sumBy cD (Datum.items x)) : Int)))), Orc.fin []] (finK Try.prog [ResultVar.tmp 4] [Ob.arr true 4 (List.map datumC (seqM mkD cD (Datum.items x) n))] (AV.sv (li
 (n + (↑(sumBy cD (Datum.items x)) : Int))))) = (CallOK Try.prog 115 [Ob.arr true 4 (List.map datumC (Datum.items x))] [SV.one (AC.ref 0), li n] [Ob.arr true 4 (List.map datumC
 (seqM mkD cD (Datum.items x) n))] (AV.sv (li (n + (↑(sumBy cD (Datum.items x)) : Int)))) ∧ ObsEq [Ob.arr true 4 (List.map datumC (seqM mkD cD (Datum.items x) n))] [Ob.arr true 4
 (List.map datumC (seqM mkD cD (Datum.items x) n))] ∧ AV.sv (li (n + (↑(sumBy cD (Datum.items x)) : Int))) = AV.sv (li (n + (↑(sumBy cD (Datum.items x)) : Int)))) := by kernel_rfl
theorem c_markDatum (x : Datum) (n : Int) (h0 : 0 ≤ n) (h : n + (sumBy cD x.items : Nat) ≤ 2147483647)  : P_c_markDatum x n := by
  refine CallOK.ofRun wide (run_c_markDatum x n) Try.call47 Try.func47 rfl rfl rfl ?_
  with_reducible repeat' (first | apply And.intro | exact flatI | exact flatS | exact rowLens | (intro; skip) | apply obsN | apply obsC | apply obA | apply obM | apply obB | apply svA | apply tupA | apply lcA | apply lcS | apply svC | apply liC | apply lbC | apply lsC | apply vIc | apply vBc | apply vSc | apply vLc | apply mapC | apply c_markDatumS | apply c_markDatumSL)
  all_goals (try simp only [std, stdM] at *)
  all_goals (try (first | with_reducible rfl | omega | assumption | (refine (decide_eq_true ?_).symm; assumption) | (refine (decide_eq_false ?_).symm; assumption) | (refine rowGet ?_; (first | omega | (simp only [std, stdM]; omega) | grind)) | (refine getC ?_ rfl; (first | omega | (simp only [std, stdM]; omega) | grind)) | (refine fill_step ?_ ?_; (first | omega | (simp only [std, stdM]; omega) | grind); (first | rfl | exact (Row.eq _).trans rfl)) | (refine fill_init ?_; (first | rfl | exact (Row.eq _).trans rfl)) | (refine set_row ?_; (simp only [List.length_map, List.length_set, mkTo_len]; omega)) | (refine mkToRow ?_; (first | omega | (simp only [std, stdM]; omega) | grind)) | (refine mkTo_row ?_ rfl; (first | omega | (simp only [std, stdM]; omega) | grind)) | (refine mkTo_step ?_ ?_; (first | omega | (simp only [std, stdM]; omega) | grind); (first | grind [snocI, snocS, rowSnoc])) | grind [snocI, snocS, rowSnoc]))
abbrev P_c_markModule (x : Module) (n : Int) : Prop := CallOK Try.prog 48 [.arr true 1 (x.imports.map strC), .arr true 1 (x.exports.map strC), .arr true 4 (x.body.map datumC)] [.agg [vS x.name, .ref 0, .ref 1, .ref 2], li n] [.arr true 1 ((seqM mkT cOne x.imports (n)).map strC), .arr true 1 ((seqM mkT cOne x.exports (n + x.imports.length)).map strC), .arr true 4 ((seqM mkD cD x.body (n + x.imports.length + x.exports.length)).map datumC)] (.sv (li (n + x.imports.length + x.exports.length + sumBy cD x.body)))
theorem run_c_markModule (x : Module) (n : Int) : aexec Try.prog (Option.getD (Func.body Try.f48) Code.skip) (entry [Ob.arr true 1 (List.map strC (Module.imports x)), Ob.arr true 1
 (List.map strC (Module.exports x)), Ob.arr true 4 (List.map datumC (Module.body x))] [SV.agg [vS (Module.name x), AC.ref 0, AC.ref 1, AC.ref 2], li n] 18) [Orc.call [Mode.own true
 1, Mode.rd] [Ob.arr true 1 (List.map strC (seqM mkT cOne (Module.imports x) n))] (AV.sv (li (n + (↑(List.length (Module.imports x)) : Int)))), Orc.call [Mode.own true 1, Mode.rd]
 [Ob.arr true 1 (List.map strC (seqM mkT cOne (Module.exports x) (n + (↑(List.length (Module.imports x)) : Int))))] (AV.sv (li (n + (↑(List.length (Module.imports x)) : Int) +
 (↑(List.length (Module.exports x)) : Int)))), Orc.call [Mode.own true 4, Mode.rd] [Ob.arr true 4 (List.map datumC (seqM mkD cD (Module.body x) (n + (↑(List.length (Module.imports
 x)) : Int) + (↑(List.length (Module.exports x)) : Int))))] (AV.sv (li (n + (↑(List.length (Module.imports x)) : Int) + (↑(List.length (Module.exports x)) : Int) + (↑(sumBy cD
 (Module.body x)) : Int)))), Orc.fin []] (finK Try.prog [ResultVar.tmp 4] [Ob.arr true 1 (List.map strC (seqM mkT cOne (Module.imports x) n)), Ob.arr true 1 (List.map strC (seqM
 mkT cOne (Module.exports x) (n + (↑(List.length (Module.imports x)) : Int)))), Ob.arr true 4 (List.map datumC (seqM mkD cD (Module.body x) (n + (↑(List.length (Module.imports x))
 : Int) + (↑(List.length (Module.exports x)) : Int))))] (AV.sv (li (n + (↑(List.length (Module.imports x)) : Int) + (↑(List.length (Module.exports x)) : Int) + (↑(sumBy cD
 (Module.body x)) : Int))))) = (P_c_markStringS (Module.imports x) n ∧ P_c_markStringS (Module.exports x) (n + (↑(List.length (Module.imports x)) : Int)) ∧ CallOK Try.prog 115
 [Ob.arr true 4 (List.map datumC (Module.body x))] [SV.one (AC.ref 0), li (n + (↑(List.length (Module.imports x)) : Int) + (↑(List.length (Module.exports x)) : Int))] [Ob.arr true
 4 (List.map datumC (seqM mkD cD (Module.body x) (n + (↑(List.length (Module.imports x)) : Int) + (↑(List.length (Module.exports x)) : Int))))] (AV.sv (li (n + (↑(List.length
 (Module.imports x)) : Int) + (↑(List.length (Module.exports x)) : Int) + (↑(sumBy cD (Module.body x)) : Int)))) ∧ ObsEq [Ob.arr true 1 (List.map strC (seqM mkT cOne
 (Module.imports x) n)), Ob.arr true 1 (List.map strC (seqM mkT cOne (Module.exports x) (n + (↑(List.length (Module.imports x)) : Int)))), Ob.arr true 4 (List.map datumC (seqM mkD
 cD (Module.body x) (n + (↑(List.length (Module.imports x)) : Int) + (↑(List.length (Module.exports x)) : Int))))] [Ob.arr true 1 (List.map strC (seqM mkT cOne (Module.imports x)
 n)), Ob.arr true 1 (List.map strC (seqM mkT cOne (Module.exports x) (n + (↑(List.length (Module.imports x)) : Int)))), Ob.arr true 4 (List.map datumC (seqM mkD cD (Module.body x)
 (n + (↑(List.length (Module.imports x)) : Int) + (↑(List.length (Module.exports x)) : Int))))] ∧ AV.sv (li (n + (↑(List.length (Module.imports x)) : Int) + (↑(List.length
 (Module.exports x)) : Int) + (↑(sumBy cD (Module.body x)) : Int))) = AV.sv (li (n + (↑(List.length (Module.imports x)) : Int) + (↑(List.length (Module.exports x)) : Int) +
 (↑(sumBy cD (Module.body x)) : Int)))) := by kernel_rfl
theorem c_markModule (x : Module) (n : Int) (h0 : 0 ≤ n) (h : n + (x.imports.length + x.exports.length + sumBy cD x.body : Nat) ≤ 2147483647)  : P_c_markModule x n := by
  refine CallOK.ofRun wide (run_c_markModule x n) Try.call48 Try.func48 rfl rfl rfl ?_
  with_reducible repeat' (first | apply And.intro | exact flatI | exact flatS | exact rowLens | (intro; skip) | apply obsN | apply obsC | apply obA | apply obM | apply obB | apply svA | apply tupA | apply lcA | apply lcS | apply svC | apply liC | apply lbC | apply lsC | apply vIc | apply vBc | apply vSc | apply vLc | apply mapC | apply c_markStringS | apply c_markDatumS | apply c_markDatumSL)
  all_goals (try simp only [std, stdM] at *)
  all_goals (try (first | with_reducible rfl | omega | assumption | (refine (decide_eq_true ?_).symm; assumption) | (refine (decide_eq_false ?_).symm; assumption) | (refine rowGet ?_; (first | omega | (simp only [std, stdM]; omega) | grind)) | (refine getC ?_ rfl; (first | omega | (simp only [std, stdM]; omega) | grind)) | (refine fill_step ?_ ?_; (first | omega | (simp only [std, stdM]; omega) | grind); (first | rfl | exact (Row.eq _).trans rfl)) | (refine fill_init ?_; (first | rfl | exact (Row.eq _).trans rfl)) | (refine set_row ?_; (simp only [List.length_map, List.length_set, mkTo_len]; omega)) | (refine mkToRow ?_; (first | omega | (simp only [std, stdM]; omega) | grind)) | (refine mkTo_row ?_ rfl; (first | omega | (simp only [std, stdM]; omega) | grind)) | (refine mkTo_step ?_ ?_; (first | omega | (simp only [std, stdM]; omega) | grind); (first | grind [snocI, snocS, rowSnoc])) | grind [snocI, snocS, rowSnoc]))
end Go.Proofs.Ytehpjofddjmbpaa
end
section
namespace Go.Proofs.Ytehpjofddjmbpaa
open Go Go.Proofs.Ytehpjofddjmbpaa.Ab
set_option linter.unusedVariables false
set_option linter.unusedSimpArgs false
set_option maxHeartbeats 4000000
abbrev P_c_heldStringS (L : List ByteArray) (n : Int) : Prop := CallOK Try.prog 146 [] [ll (L.map strC), li n] [] (.sv (li (n + L.length)))
def Tc_heldStringSLa (L : List ByteArray) (n : Int) (x0 : SV) (x1 : SV) : St := St.mk (regsOf 22 [(0, AV.sv (ll (List.map strC L))), (1, AV.sv x1), (5, AV.sv x0)]) [] 0 
def Lc_heldStringSLa (L : List ByteArray) (n : Int) (k : Nat) : St := Tc_heldStringSLa L n (li (↑k : Int)) (li (n + (↑k : Int))) 
def Ic_heldStringSLa (L : List ByteArray) (n : Int) : Nat → St → Prop := Head (Lc_heldStringSLa L n) (fun k => k ≤ List.length L ∧ List.length L ≤ 9223372036854775807) fun k =>
 List.length L - k 
def W0c_heldStringSLa (L : List ByteArray) (n : Int) (x0 : SV) : St := St.mk (regsOf 22 [(1, AV.sv x0)]) [] 0 
def W1c_heldStringSLa (L : List ByteArray) (n : Int) (x0 : SV) : St := St.mk (regsOf 22 [(4, AV.sv x0)]) [] 0 
def Yc_heldStringSLa (L : List ByteArray) (n : Int) : List (Prop × AEx × St) := [(True, AEx.exit 0, W0c_heldStringSLa L n (li (n + (↑(List.length L) : Int)))), (False, AEx.ret,
 W1c_heldStringSLa L n (li (-1 : Int)))]
theorem Hc_heldStringSLa {L : List ByteArray} {n : Int} {k : Nat} {m : Nat} (h : (fun k => k ≤ List.length L ∧ List.length L ≤ 9223372036854775807) k) (hm : (fun k => List.length L
 - k) k = m) : Ic_heldStringSLa L n m (Lc_heldStringSLa L n k) := hm ▸ Head.mk h
theorem Ec_heldStringSLa {L : List ByteArray} {n : Int} {k : Nat} {x0 : SV} {x1 : SV} (h0 : x0 = (li (↑k : Int))) (h1 : x1 = (li (n + (↑k : Int)))) : Tc_heldStringSLa L n x0 x1 =
 Lc_heldStringSLa L n k := by
  rw [h0, h1]
  rfl
theorem EW0c_heldStringSLa {L : List ByteArray} {n : Int} {x0 y0 : SV} (h0 : x0 = y0) : W0c_heldStringSLa L n x0 = W0c_heldStringSLa L n y0 := by rw [h0]
theorem EW1c_heldStringSLa {L : List ByteArray} {n : Int} {x0 y0 : SV} (h0 : x0 = y0) : W1c_heldStringSLa L n x0 = W1c_heldStringSLa L n y0 := by rw [h0]
theorem run_c_heldStringSLa (L : List ByteArray) (n : Int) (k : Nat) : aexec Try.prog (loopAt Try.f146 0) (Lc_heldStringSLa L n k) [Orc.br [Orc.draw [], Orc.cells (strC (List.getD
 L k default)), Orc.call [Mode.rd] [] (AV.sv (ls (mText (n + (↑k : Int))))), Orc.br [Orc.ghost (Ghost.sel [] [4]), Orc.out 1] [Orc.ghost (Ghost.sel [] [0, 1, 5]), Orc.goto
 (List.length L - (k + 1)) (Lc_heldStringSLa L n (k + 1))]] [Orc.ghost (Ghost.sel [] [1]), Orc.out 0]] (loopK (Ic_heldStringSLa L n) (Yc_heldStringSLa L n) (List.length L - k)) =
 (List.length (List.map strC L) ≤ 9223372036854775807 → (decide ((↑k : Int) < (↑(List.length (List.map strC L)) : Int)) = true → (0 ≤ (↑k : Int) ∧ (List.map strC L)[Int.toNat (↑k :
 Int)]? = some [cS (List.getD L k default)]) ∧ P_c_markText (n + (↑k : Int)) ∧ (decide (Array.toList (ByteArray.data (List.getD L k default)) ≠ Array.toList (ByteArray.data (mText
 (n + (↑k : Int))))) = true → False ∧ W1c_heldStringSLa L n (li (-1 : Int)) = W1c_heldStringSLa L n (li (-1 : Int))) ∧ (decide (Array.toList (ByteArray.data (List.getD L k
 default)) ≠ Array.toList (ByteArray.data (mText (n + (↑k : Int))))) = false → rng IntKind.i64 (n + (↑k : Int) + 1) ∧ rng IntKind.i64 ((↑k : Int) + 1) ∧ List.length L - (k + 1) <
 List.length L - k ∧ Tc_heldStringSLa L n (li ((↑k : Int) + 1)) (li (n + (↑k : Int) + 1)) = Lc_heldStringSLa L n (k + 1) ∧ Ic_heldStringSLa L n (List.length L - (k + 1))
 (Lc_heldStringSLa L n (k + 1)))) ∧ (decide ((↑k : Int) < (↑(List.length (List.map strC L)) : Int)) = false → True ∧ W0c_heldStringSLa L n (li (n + (↑k : Int))) = W0c_heldStringSLa
 L n (li (n + (↑(List.length L) : Int))))) := by kernel_rfl
theorem Sc_heldStringSLa (L : List ByteArray) (n : Int) (h0 : 0 ≤ n) (h : n + (↑(List.length L) : Int) ≤ 2147483647) (hm : seqM mkT cOne L n = L)  : LoopSem Try.prog (loopAt
 Try.f146 0) (Ic_heldStringSLa L n) (Yc_heldStringSLa L n) := by
  refine LoopSem.ofHead wide fun k h => ⟨_, _, run_c_heldStringSLa L n k, ?_⟩
  with_reducible repeat' (first | apply And.intro | exact flatI | exact flatS | exact rowLens | (intro; skip) | apply obsN | apply obsC | apply obA | apply obM | apply obB | apply svA | apply tupA | apply lcA | apply lcS | apply svC | apply liC | apply lbC | apply lsC | apply vIc | apply vBc | apply vSc | apply vLc | apply mapC | apply Hc_heldStringSLa | apply Ec_heldStringSLa | apply EW0c_heldStringSLa | apply EW1c_heldStringSLa | apply c_markText)
  all_goals (try simp only [std, stdM] at *)
  all_goals (try (first | with_reducible rfl | omega | assumption | (refine (decide_eq_true ?_).symm; assumption) | (refine (decide_eq_false ?_).symm; assumption) | (refine rowGet ?_; (first | omega | (simp only [std, stdM]; omega) | grind)) | (refine getC ?_ rfl; (first | omega | (simp only [std, stdM]; omega) | grind)) | (refine fill_step ?_ ?_; (first | omega | (simp only [std, stdM]; omega) | grind); (first | rfl | exact (Row.eq _).trans rfl)) | (refine fill_init ?_; (first | rfl | exact (Row.eq _).trans rfl)) | (refine set_row ?_; (simp only [List.length_map, List.length_set, mkTo_len]; omega)) | (refine mkToRow ?_; (first | omega | (simp only [std, stdM]; omega) | grind)) | (refine mkTo_row ?_ rfl; (first | omega | (simp only [std, stdM]; omega) | grind)) | (refine mkTo_step ?_ ?_; (first | omega | (simp only [std, stdM]; omega) | grind); (first | grind [seqT_get hm, snocI, snocS, rowSnoc])) | grind [seqT_get hm, snocI, snocS, rowSnoc]))
theorem run_c_heldStringS (L : List ByteArray) (n : Int) : aexec Try.prog (Option.getD (Func.body Try.f146) Code.skip) (entry [] [ll (List.map strC L), li n] 22) [Orc.ghost
 (Ghost.sel [] [0, 1, 5]), Orc.loop (List.length L - 0) (Lc_heldStringSLa L n 0) (Ic_heldStringSLa L n) [(True, AEx.exit 0, W0c_heldStringSLa L n (li (n + (↑(List.length L) :
 Int))), [Orc.fin []]), (False, AEx.ret, W1c_heldStringSLa L n (li (-1 : Int)), [Orc.fin []])]] (finK Try.prog [ResultVar.tmp 4] [] (AV.sv (li (n + (↑(List.length L) : Int))))) =
 (Tc_heldStringSLa L n (li 0) (li n) = Lc_heldStringSLa L n 0 ∧ Ic_heldStringSLa L n (List.length L - 0) (Lc_heldStringSLa L n 0) ∧ LoopSem Try.prog (loopAt Try.f146 0)
 (Ic_heldStringSLa L n) (Yc_heldStringSLa L n) ∧ (True → ObsEq [] [] ∧ AV.sv (li (n + (↑(List.length L) : Int))) = AV.sv (li (n + (↑(List.length L) : Int)))) ∧ (False → ObsEq [] []
 ∧ AV.sv (li (-1 : Int)) = AV.sv (li (n + (↑(List.length L) : Int)))) ∧ True) := by kernel_rfl
theorem c_heldStringS (L : List ByteArray) (n : Int) (h0 : 0 ≤ n) (h : n + L.length ≤ 2147483647) (hm : seqM mkT cOne L n = L)  : P_c_heldStringS L n := by
  refine CallOK.ofRun wide (run_c_heldStringS L n) Try.call146 Try.func146 rfl rfl rfl ?_
  with_reducible repeat' (first | apply And.intro | exact flatI | exact flatS | exact rowLens | (intro; skip) | apply obsN | apply obsC | apply obA | apply obM | apply obB | apply svA | apply tupA | apply lcA | apply lcS | apply svC | apply liC | apply lbC | apply lsC | apply vIc | apply vBc | apply vSc | apply vLc | apply mapC | apply Hc_heldStringSLa | apply Ec_heldStringSLa | apply Sc_heldStringSLa | apply EW0c_heldStringSLa | apply EW1c_heldStringSLa | apply c_markText)
  all_goals (try simp only [std, stdM] at *)
  all_goals (try (first | with_reducible rfl | omega | assumption | (refine (decide_eq_true ?_).symm; assumption) | (refine (decide_eq_false ?_).symm; assumption) | (refine rowGet ?_; (first | omega | (simp only [std, stdM]; omega) | grind)) | (refine getC ?_ rfl; (first | omega | (simp only [std, stdM]; omega) | grind)) | (refine fill_step ?_ ?_; (first | omega | (simp only [std, stdM]; omega) | grind); (first | rfl | exact (Row.eq _).trans rfl)) | (refine fill_init ?_; (first | rfl | exact (Row.eq _).trans rfl)) | (refine set_row ?_; (simp only [List.length_map, List.length_set, mkTo_len]; omega)) | (refine mkToRow ?_; (first | omega | (simp only [std, stdM]; omega) | grind)) | (refine mkTo_row ?_ rfl; (first | omega | (simp only [std, stdM]; omega) | grind)) | (refine mkTo_step ?_ ?_; (first | omega | (simp only [std, stdM]; omega) | grind); (first | grind [snocI, snocS, rowSnoc])) | grind [snocI, snocS, rowSnoc]))
abbrev P_c_heldDatumS (x : Datum) (n : Int) : Prop := CallOK Try.prog 147 [] [ll (x.items.map datumC), li n] [] (.sv (li (n + sumBy cD x.items)))
def Tc_heldDatumS_sLa (x : Datum) (n : Int) (x0 : SV) (x1 : SV) : St := St.mk (regsOf 50 [(0, AV.sv (ll (List.map datumC (Datum.items x)))), (1, AV.sv x1), (5, AV.sv x0)]) [] 0 
def Lc_heldDatumS_sLa (x : Datum) (n : Int) (k : Nat) : St := Tc_heldDatumS_sLa x n (li (↑k : Int)) (li (n + (↑(sumBy cD (List.take k (Datum.items x))) : Int))) 
def Ic_heldDatumS_sLa (x : Datum) (n : Int) : Nat → St → Prop := Head (Lc_heldDatumS_sLa x n) (fun k => k ≤ List.length (Datum.items x) ∧ List.length (Datum.items x) ≤
 9223372036854775807) fun k => List.length (Datum.items x) - k 
def W0c_heldDatumS_sLa (x : Datum) (n : Int) (x0 : SV) : St := St.mk (regsOf 50 [(1, AV.sv x0)]) [] 0 
def W1c_heldDatumS_sLa (x : Datum) (n : Int) (x0 : SV) : St := St.mk (regsOf 50 [(4, AV.sv x0)]) [] 0 
def Yc_heldDatumS_sLa (x : Datum) (n : Int) : List (Prop × AEx × St) := [(True, AEx.exit 0, W0c_heldDatumS_sLa x n (li (n + (↑(sumBy cD (Datum.items x)) : Int)))), (False, AEx.ret,
 W1c_heldDatumS_sLa x n (li (-1 : Int)))]
theorem Hc_heldDatumS_sLa {x : Datum} {n : Int} {k : Nat} {m : Nat} (h : (fun k => k ≤ List.length (Datum.items x) ∧ List.length (Datum.items x) ≤ 9223372036854775807) k) (hm :
 (fun k => List.length (Datum.items x) - k) k = m) : Ic_heldDatumS_sLa x n m (Lc_heldDatumS_sLa x n k) := hm ▸ Head.mk h
theorem Ec_heldDatumS_sLa {x : Datum} {n : Int} {k : Nat} {x0 : SV} {x1 : SV} (h0 : x0 = (li (↑k : Int))) (h1 : x1 = (li (n + (↑(sumBy cD (List.take k (Datum.items x))) : Int)))) :
 Tc_heldDatumS_sLa x n x0 x1 = Lc_heldDatumS_sLa x n k := by
  rw [h0, h1]
  rfl
theorem EW0c_heldDatumS_sLa {x : Datum} {n : Int} {x0 y0 : SV} (h0 : x0 = y0) : W0c_heldDatumS_sLa x n x0 = W0c_heldDatumS_sLa x n y0 := by rw [h0]
theorem EW1c_heldDatumS_sLa {x : Datum} {n : Int} {x0 y0 : SV} (h0 : x0 = y0) : W1c_heldDatumS_sLa x n x0 = W1c_heldDatumS_sLa x n y0 := by rw [h0]
abbrev a1__heldDatumS_sLa (x : Datum) (k : Nat) := (↑(sumBy cD (List.take k (Datum.items x))) : Int)
abbrev a2__heldDatumS_sLa (x : Datum) (k : Nat) := (0 ≤ (↑k : Int) ∧ (List.map datumC (Datum.items x))[Int.toNat (↑k : Int)]? = some (datumF (List.getD (Datum.items x) k default)))
abbrev a3__heldDatumS_sLa (x : Datum) (n : Int) (k : Nat) := (li (n + (a1__heldDatumS_sLa x k) + 1 + 1 + 1 + (↑(sumBy cD (Datum.items (List.getD (Datum.items x) k default))) :
 Int)))
theorem run_c_heldDatumS_sLa (x : Datum) (n : Int) (k : Nat) : aexec Try.prog (loopAt Try.f147 0) (Lc_heldDatumS_sLa x n k) [Orc.br [Orc.cells (datumF (List.getD (Datum.items x) k
 default)), Orc.br [Orc.ghost (Ghost.sel [] [4]), Orc.out 1] [Orc.cells (datumF (List.getD (Datum.items x) k default)), Orc.br [Orc.ghost (Ghost.sel [] [4]), Orc.out 1] [Orc.draw
 [], Orc.cells (datumF (List.getD (Datum.items x) k default)), Orc.call [Mode.rd] [] (AV.sv (ls (mText (n + (a1__heldDatumS_sLa x k) + 1 + 1)))), Orc.br [Orc.ghost (Ghost.sel []
 [4]), Orc.out 1] [Orc.cells (datumF (List.getD (Datum.items x) k default)), Orc.call [Mode.rd, Mode.rd] [] (AV.sv (a3__heldDatumS_sLa x n k)), Orc.br [Orc.ghost (Ghost.sel []
 [4]), Orc.out 1] [Orc.ghost (Ghost.sel [] [0, 1, 5]), Orc.goto (List.length (Datum.items x) - (k + 1)) (Lc_heldDatumS_sLa x n (k + 1))]]]]] [Orc.ghost (Ghost.sel [] [1]), Orc.out
 0]] (loopK (Ic_heldDatumS_sLa x n) (Yc_heldDatumS_sLa x n) (List.length (Datum.items x) - k)) = (List.length (List.map datumC (Datum.items x)) ≤ 9223372036854775807 → (decide ((↑k
 : Int) < (↑(List.length (List.map datumC (Datum.items x))) : Int)) = true → (a2__heldDatumS_sLa x k) ∧ (decide (Datum.kind (List.getD (Datum.items x) k default) ≠ n +
 (a1__heldDatumS_sLa x k)) = true → False ∧ W1c_heldDatumS_sLa x n (li (-1 : Int)) = W1c_heldDatumS_sLa x n (li (-1 : Int))) ∧ (decide (Datum.kind (List.getD (Datum.items x) k
 default) ≠ n + (a1__heldDatumS_sLa x k)) = false → rng IntKind.i64 (n + (a1__heldDatumS_sLa x k) + 1) ∧ (a2__heldDatumS_sLa x k) ∧ (decide (Datum.number (List.getD (Datum.items x)
 k default) ≠ n + (a1__heldDatumS_sLa x k) + 1) = true → False ∧ W1c_heldDatumS_sLa x n (li (-1 : Int)) = W1c_heldDatumS_sLa x n (li (-1 : Int))) ∧ (decide (Datum.number (List.getD
 (Datum.items x) k default) ≠ n + (a1__heldDatumS_sLa x k) + 1) = false → rng IntKind.i64 (n + (a1__heldDatumS_sLa x k) + 1 + 1) ∧ (a2__heldDatumS_sLa x k) ∧ P_c_markText (n +
 (a1__heldDatumS_sLa x k) + 1 + 1) ∧ (decide (Array.toList (ByteArray.data (Datum.text (List.getD (Datum.items x) k default))) ≠ Array.toList (ByteArray.data (mText (n +
 (a1__heldDatumS_sLa x k) + 1 + 1)))) = true → False ∧ W1c_heldDatumS_sLa x n (li (-1 : Int)) = W1c_heldDatumS_sLa x n (li (-1 : Int))) ∧ (decide (Array.toList (ByteArray.data
 (Datum.text (List.getD (Datum.items x) k default))) ≠ Array.toList (ByteArray.data (mText (n + (a1__heldDatumS_sLa x k) + 1 + 1)))) = false → rng IntKind.i64 (n +
 (a1__heldDatumS_sLa x k) + 1 + 1 + 1) ∧ (a2__heldDatumS_sLa x k) ∧ CallOK Try.prog 147 [] [ll (List.map datumC (Datum.items (List.getD (Datum.items x) k default))), li (n +
 (a1__heldDatumS_sLa x k) + 1 + 1 + 1)] [] (AV.sv (a3__heldDatumS_sLa x n k)) ∧ (decide (n + (a1__heldDatumS_sLa x k) + 1 + 1 + 1 + (↑(sumBy cD (Datum.items (List.getD (Datum.items
 x) k default))) : Int) < 0) = true → False ∧ W1c_heldDatumS_sLa x n (li (-1 : Int)) = W1c_heldDatumS_sLa x n (li (-1 : Int))) ∧ (decide (n + (a1__heldDatumS_sLa x k) + 1 + 1 + 1 +
 (↑(sumBy cD (Datum.items (List.getD (Datum.items x) k default))) : Int) < 0) = false → rng IntKind.i64 ((↑k : Int) + 1) ∧ List.length (Datum.items x) - (k + 1) < List.length
 (Datum.items x) - k ∧ Tc_heldDatumS_sLa x n (li ((↑k : Int) + 1)) (a3__heldDatumS_sLa x n k) = Lc_heldDatumS_sLa x n (k + 1) ∧ Ic_heldDatumS_sLa x n (List.length (Datum.items x) -
 (k + 1)) (Lc_heldDatumS_sLa x n (k + 1))))))) ∧ (decide ((↑k : Int) < (↑(List.length (List.map datumC (Datum.items x))) : Int)) = false → True ∧ W0c_heldDatumS_sLa x n (li (n +
 (a1__heldDatumS_sLa x k))) = W0c_heldDatumS_sLa x n (li (n + (↑(sumBy cD (Datum.items x)) : Int))))) := by kernel_rfl
theorem Sc_heldDatumS_sLa (x : Datum) (n : Int) (h0 : 0 ≤ n) (h : n + (↑(sumBy cD (Datum.items x)) : Int) ≤ 2147483647) (hm : seqM mkD cD (Datum.items x) n = Datum.items x) (ih : ∀
 (z : Datum), z ∈ Datum.items x → ∀ (n : Int), 0 ≤ n → n + (↑(sumBy cD (Datum.items z)) : Int) ≤ 2147483647 → seqM mkD cD (Datum.items z) n = Datum.items z → P_c_heldDatumS z n)  :
 LoopSem Try.prog (loopAt Try.f147 0) (Ic_heldDatumS_sLa x n) (Yc_heldDatumS_sLa x n) := by
  refine LoopSem.ofHead wide fun k h => ⟨_, _, run_c_heldDatumS_sLa x n k, ?_⟩
  try delta a1__heldDatumS_sLa a2__heldDatumS_sLa a3__heldDatumS_sLa
  have g0 := sumBy_takeLe cD x.items (k + 1)
  have g1 := fun hk : k < x.items.length => mkD_fix (seqM_get hm hk)
  with_reducible repeat' (first | apply And.intro | exact flatI | exact flatS | exact rowLens | exact ih | (intro; skip) | apply obsN | apply obsC | apply obA | apply obM | apply obB | apply svA | apply tupA | apply lcA | apply lcS | apply svC | apply liC | apply lbC | apply lsC | apply vIc | apply vBc | apply vSc | apply vLc | apply mapC | apply Hc_heldDatumS_sLa | apply Ec_heldDatumS_sLa | apply EW0c_heldDatumS_sLa | apply EW1c_heldDatumS_sLa | apply c_markText | apply ih)
  all_goals (try simp only [std, stdM] at *)
  all_goals (try (first | with_reducible rfl | omega | assumption | (refine (decide_eq_true ?_).symm; assumption) | (refine (decide_eq_false ?_).symm; assumption) | (refine rowGet ?_; (first | omega | (simp only [std, stdM]; omega) | grind)) | (refine getC ?_ rfl; (first | omega | (simp only [std, stdM]; omega) | grind)) | (refine fill_step ?_ ?_; (first | omega | (simp only [std, stdM]; omega) | grind); (first | rfl | exact (Row.eq _).trans rfl)) | (refine fill_init ?_; (first | rfl | exact (Row.eq _).trans rfl)) | (refine set_row ?_; (simp only [List.length_map, List.length_set, mkTo_len]; omega)) | (refine mkToRow ?_; (first | omega | (simp only [std, stdM]; omega) | grind)) | (refine mkTo_row ?_ rfl; (first | omega | (simp only [std, stdM]; omega) | grind)) | (refine mkTo_step ?_ ?_; (first | omega | (simp only [std, stdM]; omega) | grind); (first | grind [sumBy_step, getD_mem', cD_eq, snocI, snocS, rowSnoc])) | grind [sumBy_step, getD_mem', cD_eq, snocI, snocS, rowSnoc]))
theorem run_c_heldDatumS_s (x : Datum) (n : Int) : aexec Try.prog (Option.getD (Func.body Try.f147) Code.skip) (entry [] [ll (List.map datumC (Datum.items x)), li n] 50) [Orc.ghost
 (Ghost.sel [] [0, 1, 5]), Orc.loop (List.length (Datum.items x) - 0) (Lc_heldDatumS_sLa x n 0) (Ic_heldDatumS_sLa x n) [(True, AEx.exit 0, W0c_heldDatumS_sLa x n (li (n + (↑(sumBy
 cD (Datum.items x)) : Int))), [Orc.fin []]), (False, AEx.ret, W1c_heldDatumS_sLa x n (li (-1 : Int)), [Orc.fin []])]] (finK Try.prog [ResultVar.tmp 4] [] (AV.sv (li (n + (↑(sumBy
 cD (Datum.items x)) : Int))))) = (Tc_heldDatumS_sLa x n (li 0) (li n) = Lc_heldDatumS_sLa x n 0 ∧ Ic_heldDatumS_sLa x n (List.length (Datum.items x) - 0) (Lc_heldDatumS_sLa x n 0)
 ∧ LoopSem Try.prog (loopAt Try.f147 0) (Ic_heldDatumS_sLa x n) (Yc_heldDatumS_sLa x n) ∧ (True → ObsEq [] [] ∧ AV.sv (li (n + (↑(sumBy cD (Datum.items x)) : Int))) = AV.sv (li (n
 + (↑(sumBy cD (Datum.items x)) : Int)))) ∧ (False → ObsEq [] [] ∧ AV.sv (li (-1 : Int)) = AV.sv (li (n + (↑(sumBy cD (Datum.items x)) : Int)))) ∧ True) := by kernel_rfl
theorem c_heldDatumS_s (x : Datum) (n : Int) (h0 : 0 ≤ n) (h : n + sumBy cD x.items ≤ 2147483647) (hm : seqM mkD cD x.items n = x.items) (ih : ∀ z ∈ x.items, ∀ (n : Int) (h0 : 0 ≤
 n) (h : n + sumBy cD z.items ≤ 2147483647) (hm : seqM mkD cD z.items n = z.items), P_c_heldDatumS z n)  : P_c_heldDatumS x n := by
  refine CallOK.ofRun wide (run_c_heldDatumS_s x n) Try.call147 Try.func147 rfl rfl rfl ?_
  have gl := cD_len x.items
  with_reducible repeat' (first | apply And.intro | exact flatI | exact flatS | exact rowLens | exact ih | (intro; skip) | apply obsN | apply obsC | apply obA | apply obM | apply obB | apply svA | apply tupA | apply lcA | apply lcS | apply svC | apply liC | apply lbC | apply lsC | apply vIc | apply vBc | apply vSc | apply vLc | apply mapC | apply Hc_heldDatumS_sLa | apply Ec_heldDatumS_sLa | apply Sc_heldDatumS_sLa | apply EW0c_heldDatumS_sLa | apply EW1c_heldDatumS_sLa | apply c_markText)
  all_goals (try simp only [std, stdM] at *)
  all_goals (try (first | with_reducible rfl | omega | assumption | (refine (decide_eq_true ?_).symm; assumption) | (refine (decide_eq_false ?_).symm; assumption) | (refine rowGet ?_; (first | omega | (simp only [std, stdM]; omega) | grind)) | (refine getC ?_ rfl; (first | omega | (simp only [std, stdM]; omega) | grind)) | (refine fill_step ?_ ?_; (first | omega | (simp only [std, stdM]; omega) | grind); (first | rfl | exact (Row.eq _).trans rfl)) | (refine fill_init ?_; (first | rfl | exact (Row.eq _).trans rfl)) | (refine set_row ?_; (simp only [List.length_map, List.length_set, mkTo_len]; omega)) | (refine mkToRow ?_; (first | omega | (simp only [std, stdM]; omega) | grind)) | (refine mkTo_row ?_ rfl; (first | omega | (simp only [std, stdM]; omega) | grind)) | (refine mkTo_step ?_ ?_; (first | omega | (simp only [std, stdM]; omega) | grind); (first | grind [mkTo_all, snocI, snocS, rowSnoc])) | grind [mkTo_all, snocI, snocS, rowSnoc]))
theorem c_heldDatumS (x : Datum) : ∀ (n : Int) (h0 : 0 ≤ n) (h : n + sumBy cD x.items ≤ 2147483647) (hm : seqM mkD cD x.items n = x.items), P_c_heldDatumS x n := Datum.ind (P := fun x => ∀ (n : Int) (h0 : 0 ≤ n) (h : n + sumBy cD x.items ≤ 2147483647) (hm : seqM mkD cD x.items n = x.items), P_c_heldDatumS x n) (fun x ih n h0 h hm => c_heldDatumS_s x n h0 h hm ih) x
theorem c_heldDatumSL (L : List Datum) (n : Int) (h0 : 0 ≤ n) (h : n + sumBy cD L ≤ 2147483647) (hm : seqM mkD cD L n = L) : P_c_heldDatumS { (default : Datum) with items := L } n := c_heldDatumS { (default : Datum) with items := L } n h0 h hm
abbrev P_c_heldModule (x : Module) (n : Int) : Prop := CallOK Try.prog 49 [] [.agg [vS x.name, vL (x.imports.map strC), vL (x.exports.map strC), vL (x.body.map datumC)], li n] [] (.sv (li (n + x.imports.length + x.exports.length + sumBy cD x.body)))
theorem run_c_heldModule (x : Module) (n : Int) : aexec Try.prog (Option.getD (Func.body Try.f49) Code.skip) (entry [] [SV.agg [vS (Module.name x), vL (List.map strC
 (Module.imports x)), vL (List.map strC (Module.exports x)), vL (List.map datumC (Module.body x))], li n] 24) [Orc.call [Mode.rd, Mode.rd] [] (AV.sv (li (n + (↑(List.length
 (Module.imports x)) : Int)))), Orc.br [Orc.fin []] [Orc.call [Mode.rd, Mode.rd] [] (AV.sv (li (n + (↑(List.length (Module.imports x)) : Int) + (↑(List.length (Module.exports x)) :
 Int)))), Orc.br [Orc.fin []] [Orc.call [Mode.rd, Mode.rd] [] (AV.sv (li (n + (↑(List.length (Module.imports x)) : Int) + (↑(List.length (Module.exports x)) : Int) + (↑(sumBy cD
 (Module.body x)) : Int)))), Orc.br [Orc.fin []] [Orc.fin []]]]] (finK Try.prog [ResultVar.tmp 4] [] (AV.sv (li (n + (↑(List.length (Module.imports x)) : Int) + (↑(List.length
 (Module.exports x)) : Int) + (↑(sumBy cD (Module.body x)) : Int))))) = (P_c_heldStringS (Module.imports x) n ∧ (decide (n + (↑(List.length (Module.imports x)) : Int) < 0) = true →
 ObsEq [] [] ∧ AV.sv (li (-1 : Int)) = AV.sv (li (n + (↑(List.length (Module.imports x)) : Int) + (↑(List.length (Module.exports x)) : Int) + (↑(sumBy cD (Module.body x)) : Int))))
 ∧ (decide (n + (↑(List.length (Module.imports x)) : Int) < 0) = false → P_c_heldStringS (Module.exports x) (n + (↑(List.length (Module.imports x)) : Int)) ∧ (decide (n +
 (↑(List.length (Module.imports x)) : Int) + (↑(List.length (Module.exports x)) : Int) < 0) = true → ObsEq [] [] ∧ AV.sv (li (-1 : Int)) = AV.sv (li (n + (↑(List.length
 (Module.imports x)) : Int) + (↑(List.length (Module.exports x)) : Int) + (↑(sumBy cD (Module.body x)) : Int)))) ∧ (decide (n + (↑(List.length (Module.imports x)) : Int) +
 (↑(List.length (Module.exports x)) : Int) < 0) = false → CallOK Try.prog 147 [] [ll (List.map datumC (Module.body x)), li (n + (↑(List.length (Module.imports x)) : Int) +
 (↑(List.length (Module.exports x)) : Int))] [] (AV.sv (li (n + (↑(List.length (Module.imports x)) : Int) + (↑(List.length (Module.exports x)) : Int) + (↑(sumBy cD (Module.body x))
 : Int)))) ∧ (decide (n + (↑(List.length (Module.imports x)) : Int) + (↑(List.length (Module.exports x)) : Int) + (↑(sumBy cD (Module.body x)) : Int) < 0) = true → ObsEq [] [] ∧
 AV.sv (li (-1 : Int)) = AV.sv (li (n + (↑(List.length (Module.imports x)) : Int) + (↑(List.length (Module.exports x)) : Int) + (↑(sumBy cD (Module.body x)) : Int)))) ∧ (decide (n
 + (↑(List.length (Module.imports x)) : Int) + (↑(List.length (Module.exports x)) : Int) + (↑(sumBy cD (Module.body x)) : Int) < 0) = false → ObsEq [] [] ∧ AV.sv (li (n +
 (↑(List.length (Module.imports x)) : Int) + (↑(List.length (Module.exports x)) : Int) + (↑(sumBy cD (Module.body x)) : Int))) = AV.sv (li (n + (↑(List.length (Module.imports x)) :
 Int) + (↑(List.length (Module.exports x)) : Int) + (↑(sumBy cD (Module.body x)) : Int))))))) := by kernel_rfl
theorem c_heldModule (x : Module) (n : Int) (h0 : 0 ≤ n) (h : n + (x.imports.length + x.exports.length + sumBy cD x.body : Nat) ≤ 2147483647) (hm0 : seqM mkT cOne x.imports (n) =
 x.imports) (hm1 : seqM mkT cOne x.exports (n + x.imports.length) = x.exports) (hm2 : seqM mkD cD x.body (n + x.imports.length + x.exports.length) = x.body)  : P_c_heldModule x n
 := by
  refine CallOK.ofRun wide (run_c_heldModule x n) Try.call49 Try.func49 rfl rfl rfl ?_
  with_reducible repeat' (first | apply And.intro | exact flatI | exact flatS | exact rowLens | (intro; skip) | apply obsN | apply obsC | apply obA | apply obM | apply obB | apply svA | apply tupA | apply lcA | apply lcS | apply svC | apply liC | apply lbC | apply lsC | apply vIc | apply vBc | apply vSc | apply vLc | apply mapC | apply c_heldStringS | apply c_heldDatumS | apply c_heldDatumSL)
  all_goals (try simp only [std, stdM] at *)
  all_goals (try (first | with_reducible rfl | omega | assumption | (refine (decide_eq_true ?_).symm; assumption) | (refine (decide_eq_false ?_).symm; assumption) | (refine rowGet ?_; (first | omega | (simp only [std, stdM]; omega) | grind)) | (refine getC ?_ rfl; (first | omega | (simp only [std, stdM]; omega) | grind)) | (refine fill_step ?_ ?_; (first | omega | (simp only [std, stdM]; omega) | grind); (first | rfl | exact (Row.eq _).trans rfl)) | (refine fill_init ?_; (first | rfl | exact (Row.eq _).trans rfl)) | (refine set_row ?_; (simp only [List.length_map, List.length_set, mkTo_len]; omega)) | (refine mkToRow ?_; (first | omega | (simp only [std, stdM]; omega) | grind)) | (refine mkTo_row ?_ rfl; (first | omega | (simp only [std, stdM]; omega) | grind)) | (refine mkTo_step ?_ ?_; (first | omega | (simp only [std, stdM]; omega) | grind); (first | grind [snocI, snocS, rowSnoc])) | grind [snocI, snocS, rowSnoc]))
end Go.Proofs.Ytehpjofddjmbpaa
end
section
namespace Go.Proofs.Ytehpjofddjmbpaa
open Go Go.Proofs.Ytehpjofddjmbpaa.Ab
set_option linter.unusedVariables false
set_option linter.unusedSimpArgs false
set_option maxHeartbeats 4000000
abbrev P_c_szDatumS (L : List Datum) (left : Int) : Prop := CallOK Try.prog 118 [] [ll (L.map datumC), li left] [] (.sv (li (sz (L.length + sumBy wD L) left)))
abbrev P_c_szDatum (x : Datum) (left : Int) : Prop := CallOK Try.prog 42 [] [datumA x, li left] [] (.sv (li (sz (wD x) left)))
def Tc_szDatumSLa (L : List Datum) (left : Int) (x0 : SV) (x1 : SV) : St := St.mk (regsOf 27 [(0, AV.sv (ll (List.map datumC L))), (1, AV.sv x1), (5, AV.sv x0)]) [] 0 
def Lc_szDatumSLa (L : List Datum) (left : Int) (k : Nat × Int) : St := Tc_szDatumSLa L left (li (↑(Prod.fst k) : Int)) (li (Prod.snd k)) 
def Ic_szDatumSLa (L : List Datum) (left : Int) : Nat → St → Prop := Head (Lc_szDatumSLa L left) (fun k => Prod.fst k ≤ List.length L ∧ List.length L ≤ 9223372036854775807 ∧ 0 ≤
 Prod.snd k ∧ Prod.snd k ≤ left ∧ sz (sumBy wD (List.drop (Prod.fst k) L)) (Prod.snd k) = sz (List.length L + sumBy wD L) left) fun k => List.length L - Prod.fst k 
def W0c_szDatumSLa (L : List Datum) (left : Int) (x0 : SV) : St := St.mk (regsOf 27 [(1, AV.sv x0)]) [] 0 
def W1c_szDatumSLa (L : List Datum) (left : Int) (x0 : SV) : St := St.mk (regsOf 27 [(4, AV.sv x0)]) [] 0 
def Yc_szDatumSLa (L : List Datum) (left : Int) : List (Prop × AEx × St) := [(0 ≤ sz (List.length L + sumBy wD L) left, AEx.exit 0, W0c_szDatumSLa L left (li (sz (List.length L +
 sumBy wD L) left))), (sz (List.length L + sumBy wD L) left = (-1 : Int), AEx.ret, W1c_szDatumSLa L left (li (-1 : Int)))]
theorem Hc_szDatumSLa {L : List Datum} {left : Int} {k : Nat × Int} {m : Nat} (h : (fun k => Prod.fst k ≤ List.length L ∧ List.length L ≤ 9223372036854775807 ∧ 0 ≤ Prod.snd k ∧
 Prod.snd k ≤ left ∧ sz (sumBy wD (List.drop (Prod.fst k) L)) (Prod.snd k) = sz (List.length L + sumBy wD L) left) k) (hm : (fun k => List.length L - Prod.fst k) k = m) :
 Ic_szDatumSLa L left m (Lc_szDatumSLa L left k) := hm ▸ Head.mk h
theorem Ec_szDatumSLa {L : List Datum} {left : Int} {k : Nat × Int} {x0 : SV} {x1 : SV} (h0 : x0 = (li (↑(Prod.fst k) : Int))) (h1 : x1 = (li (Prod.snd k))) : Tc_szDatumSLa L left
 x0 x1 = Lc_szDatumSLa L left k := by
  rw [h0, h1]
  rfl
theorem EW0c_szDatumSLa {L : List Datum} {left : Int} {x0 y0 : SV} (h0 : x0 = y0) : W0c_szDatumSLa L left x0 = W0c_szDatumSLa L left y0 := by rw [h0]
theorem EW1c_szDatumSLa {L : List Datum} {left : Int} {x0 y0 : SV} (h0 : x0 = y0) : W1c_szDatumSLa L left x0 = W1c_szDatumSLa L left y0 := by rw [h0]
theorem run_c_szDatumSLa (L : List Datum) (left : Int) (k : Nat × Int) : aexec Try.prog (loopAt Try.f118 0) (Lc_szDatumSLa L left k) [Orc.br [Orc.cells (datumF (List.getD L
 (Prod.fst k) default)), Orc.call [Mode.rd, Mode.rd] [] (AV.sv (li (sz (wD (List.getD L (Prod.fst k) default)) (Prod.snd k)))), Orc.br [Orc.ghost (Ghost.sel [] [4]), Orc.out 1]
 [Orc.ghost (Ghost.sel [] [0, 1, 5]), Orc.goto (List.length L - (Prod.fst k + 1)) (Lc_szDatumSLa L left (Prod.fst k + 1, sz (wD (List.getD L (Prod.fst k) default)) (Prod.snd k)))]]
 [Orc.ghost (Ghost.sel [] [1]), Orc.out 0]] (loopK (Ic_szDatumSLa L left) (Yc_szDatumSLa L left) (List.length L - Prod.fst k)) = (List.length (List.map datumC L) ≤
 9223372036854775807 → (decide ((↑(Prod.fst k) : Int) < (↑(List.length (List.map datumC L)) : Int)) = true → (0 ≤ (↑(Prod.fst k) : Int) ∧ (List.map datumC L)[Int.toNat (↑(Prod.fst
 k) : Int)]? = some (datumF (List.getD L (Prod.fst k) default))) ∧ P_c_szDatum (List.getD L (Prod.fst k) default) (Prod.snd k) ∧ (decide (sz (wD (List.getD L (Prod.fst k) default))
 (Prod.snd k) < 0) = true → sz (List.length L + sumBy wD L) left = (-1 : Int) ∧ W1c_szDatumSLa L left (li (-1 : Int)) = W1c_szDatumSLa L left (li (-1 : Int))) ∧ (decide (sz (wD
 (List.getD L (Prod.fst k) default)) (Prod.snd k) < 0) = false → rng IntKind.i64 ((↑(Prod.fst k) : Int) + 1) ∧ List.length L - (Prod.fst k + 1) < List.length L - Prod.fst k ∧
 Tc_szDatumSLa L left (li ((↑(Prod.fst k) : Int) + 1)) (li (sz (wD (List.getD L (Prod.fst k) default)) (Prod.snd k))) = Lc_szDatumSLa L left (Prod.fst k + 1, sz (wD (List.getD L
 (Prod.fst k) default)) (Prod.snd k)) ∧ Ic_szDatumSLa L left (List.length L - (Prod.fst k + 1)) (Lc_szDatumSLa L left (Prod.fst k + 1, sz (wD (List.getD L (Prod.fst k) default))
 (Prod.snd k))))) ∧ (decide ((↑(Prod.fst k) : Int) < (↑(List.length (List.map datumC L)) : Int)) = false → 0 ≤ sz (List.length L + sumBy wD L) left ∧ W0c_szDatumSLa L left (li
 (Prod.snd k)) = W0c_szDatumSLa L left (li (sz (List.length L + sumBy wD L) left)))) := by kernel_rfl
theorem Sc_szDatumSLa (L : List Datum) (left : Int) (h0 : 0 ≤ left) (h : left ≤ 2147483647) (ih : ∀ (x : Datum), x ∈ L → ∀ (left : Int), 0 ≤ left → left ≤ 2147483647 → P_c_szDatum
 x left)  : LoopSem Try.prog (loopAt Try.f118 0) (Ic_szDatumSLa L left) (Yc_szDatumSLa L left) := by
  refine LoopSem.ofHead wide fun k h => ⟨_, _, run_c_szDatumSLa L left k, ?_⟩
  obtain ⟨i, n⟩ := k
  simp only at *
  with_reducible repeat' (first | apply And.intro | exact flatI | exact flatS | exact rowLens | exact ih | (intro; skip) | apply obsN | apply obsC | apply obA | apply obM | apply obB | apply svA | apply tupA | apply lcA | apply lcS | apply svC | apply liC | apply lbC | apply lsC | apply vIc | apply vBc | apply vSc | apply vLc | apply mapC | apply Hc_szDatumSLa | apply Ec_szDatumSLa | apply EW0c_szDatumSLa | apply EW1c_szDatumSLa | apply ih)
  all_goals (try simp only [std] at *)
  all_goals (try (first | with_reducible rfl | omega | assumption | (refine (decide_eq_true ?_).symm; assumption) | (refine (decide_eq_false ?_).symm; assumption) | (refine rowGet ?_; (first | omega | (simp only [std]; omega) | grind)) | (refine getC ?_ rfl; (first | omega | (simp only [std]; omega) | grind)) | (refine fill_step ?_ ?_; (first | omega | (simp only [std]; omega) | grind); (first | rfl | exact (Row.eq _).trans rfl)) | (refine fill_init ?_; (first | rfl | exact (Row.eq _).trans rfl)) | grind [drop_get, sumBy, sz, getD_mem', snocI, snocS, rowSnoc]))
theorem run_c_szDatumS (L : List Datum) (left : Int) : aexec Try.prog (Option.getD (Func.body Try.f118) Code.skip) (entry [] [ll (List.map datumC L), li left] 27) [Orc.br [Orc.fin
 []] [Orc.ghost (Ghost.sel [] [0, 1, 5]), Orc.loop (List.length L - 0) (Lc_szDatumSLa L left (0, left - (↑(List.length L) : Int))) (Ic_szDatumSLa L left) [(0 ≤ sz (List.length L +
 sumBy wD L) left, AEx.exit 0, W0c_szDatumSLa L left (li (sz (List.length L + sumBy wD L) left)), [Orc.fin []]), (sz (List.length L + sumBy wD L) left = (-1 : Int), AEx.ret,
 W1c_szDatumSLa L left (li (-1 : Int)), [Orc.fin []])]]] (finK Try.prog [ResultVar.tmp 4] [] (AV.sv (li (sz (List.length L + sumBy wD L) left)))) = (List.length (List.map datumC L)
 ≤ 9223372036854775807 → rng IntKind.i64 (left - (↑(List.length (List.map datumC L)) : Int)) ∧ (decide (left - (↑(List.length (List.map datumC L)) : Int) < 0) = true → ObsEq [] []
 ∧ AV.sv (li (-1 : Int)) = AV.sv (li (sz (List.length L + sumBy wD L) left))) ∧ (decide (left - (↑(List.length (List.map datumC L)) : Int) < 0) = false → Tc_szDatumSLa L left (li
 0) (li (left - (↑(List.length (List.map datumC L)) : Int))) = Lc_szDatumSLa L left (0, left - (↑(List.length L) : Int)) ∧ Ic_szDatumSLa L left (List.length L - 0) (Lc_szDatumSLa L
 left (0, left - (↑(List.length L) : Int))) ∧ LoopSem Try.prog (loopAt Try.f118 0) (Ic_szDatumSLa L left) (Yc_szDatumSLa L left) ∧ (Int.NonNeg (sz (List.length L + sumBy wD L) left
 - 0) → ObsEq [] [] ∧ AV.sv (li (sz (List.length L + sumBy wD L) left)) = AV.sv (li (sz (List.length L + sumBy wD L) left))) ∧ (sz (List.length L + sumBy wD L) left = (-1 : Int) →
 ObsEq [] [] ∧ AV.sv (li (-1 : Int)) = AV.sv (li (sz (List.length L + sumBy wD L) left))) ∧ True)) := by kernel_rfl
theorem c_szDatumS (L : List Datum) (left : Int) (h0 : 0 ≤ left) (h : left ≤ 2147483647) (ih : ∀ x ∈ L, ∀ (left : Int) (h0 : 0 ≤ left) (h : left ≤ 2147483647), P_c_szDatum x left) 
 : P_c_szDatumS L left := by
  refine CallOK.ofRun wide (run_c_szDatumS L left) Try.call118 Try.func118 rfl rfl rfl ?_
  with_reducible repeat' (first | apply And.intro | exact flatI | exact flatS | exact rowLens | exact ih | (intro; skip) | apply obsN | apply obsC | apply obA | apply obM | apply obB | apply svA | apply tupA | apply lcA | apply lcS | apply svC | apply liC | apply lbC | apply lsC | apply vIc | apply vBc | apply vSc | apply vLc | apply mapC | apply Hc_szDatumSLa | apply Ec_szDatumSLa | apply Sc_szDatumSLa | apply EW0c_szDatumSLa | apply EW1c_szDatumSLa)
  all_goals (try simp only [std] at *)
  all_goals (try (first | with_reducible rfl | omega | assumption | (refine (decide_eq_true ?_).symm; assumption) | (refine (decide_eq_false ?_).symm; assumption) | (refine rowGet ?_; (first | omega | (simp only [std]; omega) | grind)) | (refine getC ?_ rfl; (first | omega | (simp only [std]; omega) | grind)) | (refine fill_step ?_ ?_; (first | omega | (simp only [std]; omega) | grind); (first | rfl | exact (Row.eq _).trans rfl)) | (refine fill_init ?_; (first | rfl | exact (Row.eq _).trans rfl)) | grind [sz, snocI, snocS, rowSnoc]))
theorem run_c_szDatum_s (x : Datum) (left : Int) : aexec Try.prog (Option.getD (Func.body Try.f42) Code.skip) (entry [] [datumA x, li left] 19) [Orc.br [Orc.fin []] [Orc.call
 [Mode.rd, Mode.rd] [] (AV.sv (li (sz (List.length (Datum.items x) + sumBy wD (Datum.items x)) (left - (↑(List.length (Array.toList (ByteArray.data (Datum.text x)))) : Int))))),
 Orc.br [Orc.fin []] [Orc.fin []]]] (finK Try.prog [ResultVar.tmp 4] [] (AV.sv (li (sz (wD x) left)))) = (List.length (Array.toList (ByteArray.data (Datum.text x))) ≤
 9223372036854775807 → rng IntKind.i64 (left - (↑(List.length (Array.toList (ByteArray.data (Datum.text x)))) : Int)) ∧ (decide (left - (↑(List.length (Array.toList (ByteArray.data
 (Datum.text x)))) : Int) < 0) = true → ObsEq [] [] ∧ AV.sv (li (-1 : Int)) = AV.sv (li (sz (wD x) left))) ∧ (decide (left - (↑(List.length (Array.toList (ByteArray.data
 (Datum.text x)))) : Int) < 0) = false → P_c_szDatumS (Datum.items x) (left - (↑(List.length (Array.toList (ByteArray.data (Datum.text x)))) : Int)) ∧ (decide (sz (List.length
 (Datum.items x) + sumBy wD (Datum.items x)) (left - (↑(List.length (Array.toList (ByteArray.data (Datum.text x)))) : Int)) < 0) = true → ObsEq [] [] ∧ AV.sv (li (-1 : Int)) =
 AV.sv (li (sz (wD x) left))) ∧ (decide (sz (List.length (Datum.items x) + sumBy wD (Datum.items x)) (left - (↑(List.length (Array.toList (ByteArray.data (Datum.text x)))) : Int))
 < 0) = false → ObsEq [] [] ∧ AV.sv (li (sz (List.length (Datum.items x) + sumBy wD (Datum.items x)) (left - (↑(List.length (Array.toList (ByteArray.data (Datum.text x)))) :
 Int)))) = AV.sv (li (sz (wD x) left))))) := by kernel_rfl
theorem c_szDatum_s (x : Datum) (left : Int) (h0 : 0 ≤ left) (h : left ≤ 2147483647) (ih : ∀ z ∈ x.items, ∀ (left : Int) (h0 : 0 ≤ left) (h : left ≤ 2147483647), P_c_szDatum z
 left)  : P_c_szDatum x left := by
  refine CallOK.ofRun wide (run_c_szDatum_s x left) Try.call42 Try.func42 rfl rfl rfl ?_
  with_reducible repeat' (first | apply And.intro | exact flatI | exact flatS | exact rowLens | exact ih | (intro; skip) | apply obsN | apply obsC | apply obA | apply obM | apply obB | apply svA | apply tupA | apply lcA | apply lcS | apply svC | apply liC | apply lbC | apply lsC | apply vIc | apply vBc | apply vSc | apply vLc | apply mapC | apply c_szDatumS | apply ih)
  all_goals (try simp only [std] at *)
  all_goals (try (first | with_reducible rfl | omega | assumption | (refine (decide_eq_true ?_).symm; assumption) | (refine (decide_eq_false ?_).symm; assumption) | (refine rowGet ?_; (first | omega | (simp only [std]; omega) | grind)) | (refine getC ?_ rfl; (first | omega | (simp only [std]; omega) | grind)) | (refine fill_step ?_ ?_; (first | omega | (simp only [std]; omega) | grind); (first | rfl | exact (Row.eq _).trans rfl)) | (refine fill_init ?_; (first | rfl | exact (Row.eq _).trans rfl)) | grind [wD_eq, sz, wS, snocI, snocS, rowSnoc]))
theorem c_szDatum (x : Datum) : ∀ (left : Int) (h0 : 0 ≤ left) (h : left ≤ 2147483647), P_c_szDatum x left := Datum.ind (P := fun x => ∀ (left : Int) (h0 : 0 ≤ left) (h : left ≤ 2147483647), P_c_szDatum x left) (fun x ih left h0 h => c_szDatum_s x left h0 h ih) x
end Go.Proofs.Ytehpjofddjmbpaa
end
section
namespace Go.Proofs.Ytehpjofddjmbpaa
open Go Go.Proofs.Ytehpjofddjmbpaa.Ab
set_option linter.unusedVariables false
set_option linter.unusedSimpArgs false
set_option maxHeartbeats 4000000
abbrev P_c_toDatumS (L : List Datum) : Prop := CallOK Try.prog 125 [] [ll (L.map datumC)] [.arr true 4 (L.map datumC)] (.sv (.one (.ref 0)))
abbrev P_c_toDatum (x : Datum) : Prop := CallOK Try.prog 44 [] [datumA x] (datumO x) (.sv (datumR x 0))
def Tc_toDatumSLa (L : List Datum) (x0 : SV) (x1 : Ob) : St := St.mk (regsOf 23 [(0, AV.sv (ll (List.map datumC L))), (3, AV.sv (SV.one (AC.ref 0))), (4, AV.sv x0)]) [x1] 0 
def Lc_toDatumSLa (L : List Datum) (k : Nat) : St := Tc_toDatumSLa L (li (↑k : Int)) (Ob.arr true 4 (List.map datumC (fillTo L k))) 
def Ic_toDatumSLa (L : List Datum) : Nat → St → Prop := Head (Lc_toDatumSLa L) (fun k => k ≤ List.length L ∧ List.length L ≤ 9223372036854775807) fun k => List.length L - k 
def W0c_toDatumSLa (L : List Datum) (x0 : Ob) : St := St.mk (regsOf 23 [(3, AV.sv (SV.one (AC.ref 0)))]) [x0] 0 
def Yc_toDatumSLa (L : List Datum) : List (Prop × AEx × St) := [(True, AEx.exit 0, W0c_toDatumSLa L (Ob.arr true 4 (List.map datumC L)))]
theorem Hc_toDatumSLa {L : List Datum} {k : Nat} {m : Nat} (h : (fun k => k ≤ List.length L ∧ List.length L ≤ 9223372036854775807) k) (hm : (fun k => List.length L - k) k = m) :
 Ic_toDatumSLa L m (Lc_toDatumSLa L k) := hm ▸ Head.mk h
theorem Ec_toDatumSLa {L : List Datum} {k : Nat} {x0 : SV} {x1 : Ob} (h0 : x0 = (li (↑k : Int))) (h1 : x1 = (Ob.arr true 4 (List.map datumC (fillTo L k)))) : Tc_toDatumSLa L x0 x1
 = Lc_toDatumSLa L k := by
  rw [h0, h1]
  rfl
theorem EW0c_toDatumSLa {L : List Datum} {x0 y0 : Ob} (h0 : x0 = y0) : W0c_toDatumSLa L x0 = W0c_toDatumSLa L y0 := by rw [h0]
theorem run_c_toDatumSLa (L : List Datum) (k : Nat) : aexec Try.prog (loopAt Try.f125 0) (Lc_toDatumSLa L k) [Orc.br [Orc.cells (datumF (List.getD L k default)), Orc.call [Mode.rd]
 (datumO (List.getD L k default)) (AV.sv (datumR (List.getD L k default) 0)), Orc.cells (datumF (List.getD (fillTo L k) (Int.toNat (↑k : Int)) default)), Orc.ghost (Ghost.sel [0]
 [0, 3, 4]), Orc.goto (List.length L - (k + 1)) (Lc_toDatumSLa L (k + 1))] [Orc.ghost (Ghost.sel [0] [3]), Orc.out 0]] (loopK (Ic_toDatumSLa L) (Yc_toDatumSLa L) (List.length L -
 k)) = (List.length (List.map datumC L) ≤ 9223372036854775807 → (decide ((↑k : Int) < (↑(List.length (List.map datumC L)) : Int)) = true → (0 ≤ (↑k : Int) ∧ (List.map datumC
 L)[Int.toNat (↑k : Int)]? = some (datumF (List.getD L k default))) ∧ P_c_toDatum (List.getD L k default) ∧ (0 ≤ (↑k : Int) ∧ Int.toNat (↑k : Int) < List.length (List.map datumC
 (fillTo L k))) ∧ (List.map datumC (fillTo L k))[Int.toNat (↑k : Int)]? = some (datumF (List.getD (fillTo L k) (Int.toNat (↑k : Int)) default)) ∧ rng IntKind.i64 ((↑k : Int) + 1) ∧
 List.length L - (k + 1) < List.length L - k ∧ Tc_toDatumSLa L (li ((↑k : Int) + 1)) (Ob.arr true 4 (List.set (List.map datumC (fillTo L k)) (Int.toNat (↑k : Int)) (datumF
 (List.getD L k default)))) = Lc_toDatumSLa L (k + 1) ∧ Ic_toDatumSLa L (List.length L - (k + 1)) (Lc_toDatumSLa L (k + 1))) ∧ (decide ((↑k : Int) < (↑(List.length (List.map datumC
 L)) : Int)) = false → True ∧ W0c_toDatumSLa L (Ob.arr true 4 (List.map datumC (fillTo L k))) = W0c_toDatumSLa L (Ob.arr true 4 (List.map datumC L)))) := by kernel_rfl
theorem Sc_toDatumSLa (L : List Datum) (h : List.length L + sumBy wD L ≤ 1048576) (ih : ∀ (x : Datum), x ∈ L → wD x ≤ 1048576 → P_c_toDatum x)  : LoopSem Try.prog (loopAt Try.f125
 0) (Ic_toDatumSLa L) (Yc_toDatumSLa L) := by
  refine LoopSem.ofHead wide fun k h => ⟨_, _, run_c_toDatumSLa L k, ?_⟩
  with_reducible repeat' (first | apply And.intro | exact flatI | exact flatS | exact rowLens | exact ih | (intro; skip) | apply obsN | apply obsC | apply obA | apply obM | apply obB | apply svA | apply tupA | apply lcA | apply lcS | apply svC | apply liC | apply lbC | apply lsC | apply vIc | apply vBc | apply vSc | apply vLc | apply mapC | apply Hc_toDatumSLa | apply Ec_toDatumSLa | apply EW0c_toDatumSLa | apply ih)
  all_goals (try simp only [std] at *)
  all_goals (try (first | with_reducible rfl | omega | assumption | (refine (decide_eq_true ?_).symm; assumption) | (refine (decide_eq_false ?_).symm; assumption) | (refine rowGet ?_; (first | omega | (simp only [std]; omega) | grind)) | (refine getC ?_ rfl; (first | omega | (simp only [std]; omega) | grind)) | (refine fill_step ?_ ?_; (first | omega | (simp only [std]; omega) | grind); (first | rfl | exact (Row.eq _).trans rfl)) | (refine fill_init ?_; (first | rfl | exact (Row.eq _).trans rfl)) | grind [fillTo_all, getD_mem', sumBy_mem, snocI, snocS, rowSnoc]))
theorem run_c_toDatumS (L : List Datum) : aexec Try.prog (Option.getD (Func.body Try.f125) Code.skip) (entry [] [ll (List.map datumC L)] 23) [Orc.ghost (Ghost.sel [0] [0, 3, 4]),
 Orc.loop (List.length L - 0) (Lc_toDatumSLa L 0) (Ic_toDatumSLa L) [(True, AEx.exit 0, W0c_toDatumSLa L (Ob.arr true 4 (List.map datumC L)), [Orc.fin [0]])]] (finK Try.prog
 [ResultVar.tmp 2] [Ob.arr true 4 (List.map datumC L)] (AV.sv (SV.one (AC.ref 0)))) = (List.length (List.map datumC L) ≤ 9223372036854775807 → (0 ≤ (↑(List.length (List.map datumC
 L)) : Int) ∧ 56 * Int.toNat (↑(List.length (List.map datumC L)) : Int) ≤ 281474976710656) ∧ Tc_toDatumSLa L (li 0) (Ob.arr true 4 (List.replicate (Int.toNat (↑(List.length
 (List.map datumC L)) : Int)) [cI 0, cI 0, cS (ByteArray.mk #[]), Cell.list []])) = Lc_toDatumSLa L 0 ∧ Ic_toDatumSLa L (List.length L - 0) (Lc_toDatumSLa L 0) ∧ LoopSem Try.prog
 (loopAt Try.f125 0) (Ic_toDatumSLa L) (Yc_toDatumSLa L) ∧ (True → ObsEq [Ob.arr true 4 (List.map datumC L)] [Ob.arr true 4 (List.map datumC L)] ∧ AV.sv (SV.one (AC.ref 0)) = AV.sv
 (SV.one (AC.ref 0))) ∧ True) := by kernel_rfl
theorem c_toDatumS (L : List Datum) (h : L.length + sumBy wD L ≤ 1048576) (ih : ∀ x ∈ L, ∀ (h : wD x ≤ 1048576), P_c_toDatum x)  : P_c_toDatumS L := by
  refine CallOK.ofRun wide (run_c_toDatumS L) Try.call125 Try.func125 rfl rfl rfl ?_
  with_reducible repeat' (first | apply And.intro | exact flatI | exact flatS | exact rowLens | exact ih | (intro; skip) | apply obsN | apply obsC | apply obA | apply obM | apply obB | apply svA | apply tupA | apply lcA | apply lcS | apply svC | apply liC | apply lbC | apply lsC | apply vIc | apply vBc | apply vSc | apply vLc | apply mapC | apply Hc_toDatumSLa | apply Ec_toDatumSLa | apply Sc_toDatumSLa | apply EW0c_toDatumSLa)
  all_goals (try simp only [std] at *)
  all_goals (try (first | with_reducible rfl | omega | assumption | (refine (decide_eq_true ?_).symm; assumption) | (refine (decide_eq_false ?_).symm; assumption) | (refine rowGet ?_; (first | omega | (simp only [std]; omega) | grind)) | (refine getC ?_ rfl; (first | omega | (simp only [std]; omega) | grind)) | (refine fill_step ?_ ?_; (first | omega | (simp only [std]; omega) | grind); (first | rfl | exact (Row.eq _).trans rfl)) | (refine fill_init ?_; (first | rfl | exact (Row.eq _).trans rfl)) | grind [snocI, snocS, rowSnoc]))
theorem run_c_toDatum_s (x : Datum) : aexec Try.prog (Option.getD (Func.body Try.f44) Code.skip) (entry [] [datumA x] 18) [Orc.call [Mode.rd] [Ob.arr true 4 (List.map datumC
 (Datum.items x))] (AV.sv (SV.one (AC.ref 0))), Orc.fin [3]] (finK Try.prog [ResultVar.cell 2 66] (datumO x) (AV.sv (datumR x 0))) = (P_c_toDatumS (Datum.items x) ∧ ObsEq [Ob.arr
 true 4 (List.map datumC (Datum.items x))] [Ob.arr true 4 (List.map datumC (Datum.items x))] ∧ AV.sv (SV.agg [vI (Datum.kind x), vI (Datum.number x), vS (Datum.text x), AC.ref 0])
 = AV.sv (SV.agg [vI (Datum.kind x), vI (Datum.number x), vS (Datum.text x), AC.ref 0])) := by kernel_rfl
theorem c_toDatum_s (x : Datum) (h : wD x ≤ 1048576) (ih : ∀ z ∈ x.items, ∀ (h : wD z ≤ 1048576), P_c_toDatum z)  : P_c_toDatum x := by
  refine CallOK.ofRun wide (run_c_toDatum_s x) Try.call44 Try.func44 rfl rfl rfl ?_
  with_reducible repeat' (first | apply And.intro | exact flatI | exact flatS | exact rowLens | exact ih | (intro; skip) | apply obsN | apply obsC | apply obA | apply obM | apply obB | apply svA | apply tupA | apply lcA | apply lcS | apply svC | apply liC | apply lbC | apply lsC | apply vIc | apply vBc | apply vSc | apply vLc | apply mapC | apply c_toDatumS | apply ih)
  all_goals (try simp only [std] at *)
  all_goals (try (first | with_reducible rfl | omega | assumption | (refine (decide_eq_true ?_).symm; assumption) | (refine (decide_eq_false ?_).symm; assumption) | (refine rowGet ?_; (first | omega | (simp only [std]; omega) | grind)) | (refine getC ?_ rfl; (first | omega | (simp only [std]; omega) | grind)) | (refine fill_step ?_ ?_; (first | omega | (simp only [std]; omega) | grind); (first | rfl | exact (Row.eq _).trans rfl)) | (refine fill_init ?_; (first | rfl | exact (Row.eq _).trans rfl)) | grind [wD_eq, wS, snocI, snocS, rowSnoc]))
theorem c_toDatum (x : Datum) : ∀ (h : wD x ≤ 1048576), P_c_toDatum x := Datum.ind (P := fun x => ∀ (h : wD x ≤ 1048576), P_c_toDatum x) (fun x ih h => c_toDatum_s x h ih) x
end Go.Proofs.Ytehpjofddjmbpaa
end
section
namespace Go.Proofs.Ytehpjofddjmbpaa
open Go Go.Proofs.Ytehpjofddjmbpaa.Ab
set_option linter.unusedVariables false
set_option linter.unusedSimpArgs false
set_option maxHeartbeats 4000000
abbrev P_c_eqStringS (A : List ByteArray) (B : List ByteArray) : Prop := CallOK Try.prog 130 [] [ll (A.map strC), ll (B.map strC)] [] (.sv (lb (decide (A = B))))
def Tc_eqStringSLa (A : List ByteArray) (B : List ByteArray) (x0 : SV) : St := St.mk (regsOf 26 [(0, AV.sv (ll (List.map strC A))), (1, AV.sv (ll (List.map strC B))), (5, AV.sv
 x0)]) [] 0 
def Lc_eqStringSLa (A : List ByteArray) (B : List ByteArray) (k : Nat) : St := Tc_eqStringSLa A B (li (↑k : Int)) 
def Ic_eqStringSLa (A : List ByteArray) (B : List ByteArray) : Nat → St → Prop := Head (Lc_eqStringSLa A B) (fun k => k ≤ List.length A ∧ List.length A ≤ 9223372036854775807 ∧
 List.length A = List.length B ∧ List.take k A = List.take k B) fun k => List.length A - k 
def W0c_eqStringSLa (A : List ByteArray) (B : List ByteArray) : St := St.mk (regsOf 26 []) [] 0 
def W1c_eqStringSLa (A : List ByteArray) (B : List ByteArray) (x0 : SV) : St := St.mk (regsOf 26 [(4, AV.sv x0)]) [] 0 
def Yc_eqStringSLa (A : List ByteArray) (B : List ByteArray) : List (Prop × AEx × St) := [(A = B, AEx.exit 0, W0c_eqStringSLa A B), (A ≠ B, AEx.ret, W1c_eqStringSLa A B (lb
 false))]
theorem Hc_eqStringSLa {A : List ByteArray} {B : List ByteArray} {k : Nat} {m : Nat} (h : (fun k => k ≤ List.length A ∧ List.length A ≤ 9223372036854775807 ∧ List.length A =
 List.length B ∧ List.take k A = List.take k B) k) (hm : (fun k => List.length A - k) k = m) : Ic_eqStringSLa A B m (Lc_eqStringSLa A B k) := hm ▸ Head.mk h
theorem Ec_eqStringSLa {A : List ByteArray} {B : List ByteArray} {k : Nat} {x0 : SV} (h0 : x0 = (li (↑k : Int))) : Tc_eqStringSLa A B x0 = Lc_eqStringSLa A B k := by
  rw [h0]
  rfl
theorem EW1c_eqStringSLa {A : List ByteArray} {B : List ByteArray} {x0 y0 : SV} (h0 : x0 = y0) : W1c_eqStringSLa A B x0 = W1c_eqStringSLa A B y0 := by rw [h0]
theorem run_c_eqStringSLa (A : List ByteArray) (B : List ByteArray) (k : Nat) : aexec Try.prog (loopAt Try.f130 0) (Lc_eqStringSLa A B k) [Orc.br [Orc.draw [], Orc.cells (strC
 (List.getD A k default)), Orc.cells (strC (List.getD B k default)), Orc.br [Orc.ghost (Ghost.sel [] [4]), Orc.out 1] [Orc.ghost (Ghost.sel [] [0, 1, 5]), Orc.goto (List.length A -
 (k + 1)) (Lc_eqStringSLa A B (k + 1))]] [Orc.ghost (Ghost.sel [] []), Orc.out 0]] (loopK (Ic_eqStringSLa A B) (Yc_eqStringSLa A B) (List.length A - k)) = (List.length (List.map
 strC A) ≤ 9223372036854775807 → (decide ((↑k : Int) < (↑(List.length (List.map strC A)) : Int)) = true → (0 ≤ (↑k : Int) ∧ (List.map strC A)[Int.toNat (↑k : Int)]? = some [cS
 (List.getD A k default)]) ∧ (0 ≤ (↑k : Int) ∧ (List.map strC B)[Int.toNat (↑k : Int)]? = some [cS (List.getD B k default)]) ∧ (decide (Array.toList (ByteArray.data (List.getD A k
 default)) ≠ Array.toList (ByteArray.data (List.getD B k default))) = true → A ≠ B ∧ W1c_eqStringSLa A B (lb false) = W1c_eqStringSLa A B (lb false)) ∧ (decide (Array.toList
 (ByteArray.data (List.getD A k default)) ≠ Array.toList (ByteArray.data (List.getD B k default))) = false → rng IntKind.i64 ((↑k : Int) + 1) ∧ List.length A - (k + 1) <
 List.length A - k ∧ Tc_eqStringSLa A B (li ((↑k : Int) + 1)) = Lc_eqStringSLa A B (k + 1) ∧ Ic_eqStringSLa A B (List.length A - (k + 1)) (Lc_eqStringSLa A B (k + 1)))) ∧ (decide
 ((↑k : Int) < (↑(List.length (List.map strC A)) : Int)) = false → A = B ∧ W0c_eqStringSLa A B = W0c_eqStringSLa A B)) := by kernel_rfl
theorem Sc_eqStringSLa (A : List ByteArray) (B : List ByteArray)  : LoopSem Try.prog (loopAt Try.f130 0) (Ic_eqStringSLa A B) (Yc_eqStringSLa A B) := by
  refine LoopSem.ofHead wide fun k h => ⟨_, _, run_c_eqStringSLa A B k, ?_⟩
  with_reducible repeat' (first | apply And.intro | exact flatI | exact flatS | exact rowLens | (intro; skip) | apply obsN | apply obsC | apply obA | apply obM | apply obB | apply svA | apply tupA | apply lcA | apply lcS | apply svC | apply liC | apply lbC | apply lsC | apply vIc | apply vBc | apply vSc | apply vLc | apply mapC | apply Hc_eqStringSLa | apply Ec_eqStringSLa | apply EW1c_eqStringSLa)
  all_goals (try simp only [std] at *)
  all_goals (try (first | with_reducible rfl | omega | assumption | (refine (decide_eq_true ?_).symm; assumption) | (refine (decide_eq_false ?_).symm; assumption) | (refine rowGet ?_; (first | omega | (simp only [std]; omega) | grind)) | (refine getC ?_ rfl; (first | omega | (simp only [std]; omega) | grind)) | (refine fill_step ?_ ?_; (first | omega | (simp only [std]; omega) | grind); (first | rfl | exact (Row.eq _).trans rfl)) | (refine fill_init ?_; (first | rfl | exact (Row.eq _).trans rfl)) | grind [take_eq, bytes_ext, snocI, snocS, rowSnoc]))
theorem run_c_eqStringS (A : List ByteArray) (B : List ByteArray) : aexec Try.prog (Option.getD (Func.body Try.f130) Code.skip) (entry [] [ll (List.map strC A), ll (List.map strC
 B)] 26) [Orc.br [Orc.fin []] [Orc.ghost (Ghost.sel [] [0, 1, 5]), Orc.loop (List.length A - 0) (Lc_eqStringSLa A B 0) (Ic_eqStringSLa A B) [(A = B, AEx.exit 0, W0c_eqStringSLa A
 B, [Orc.fin []]), (A ≠ B, AEx.ret, W1c_eqStringSLa A B (lb false), [Orc.fin []])]]] (finK Try.prog [ResultVar.tmp 4] [] (AV.sv (lb (decide (A = B))))) = (List.length (List.map
 strC A) ≤ 9223372036854775807 → List.length (List.map strC B) ≤ 9223372036854775807 → (decide ((↑(List.length (List.map strC A)) : Int) ≠ (↑(List.length (List.map strC B)) : Int))
 = true → ObsEq [] [] ∧ AV.sv (lb false) = AV.sv (lb (decide (A = B)))) ∧ (decide ((↑(List.length (List.map strC A)) : Int) ≠ (↑(List.length (List.map strC B)) : Int)) = false →
 Tc_eqStringSLa A B (li 0) = Lc_eqStringSLa A B 0 ∧ Ic_eqStringSLa A B (List.length A - 0) (Lc_eqStringSLa A B 0) ∧ LoopSem Try.prog (loopAt Try.f130 0) (Ic_eqStringSLa A B)
 (Yc_eqStringSLa A B) ∧ (A = B → ObsEq [] [] ∧ AV.sv (lb true) = AV.sv (lb (decide (A = B)))) ∧ ((A = B → False) → ObsEq [] [] ∧ AV.sv (lb false) = AV.sv (lb (decide (A = B)))) ∧
 True)) := by kernel_rfl
theorem c_eqStringS (A B : List ByteArray)  : P_c_eqStringS A B := by
  refine CallOK.ofRun wide (run_c_eqStringS A B) Try.call130 Try.func130 rfl rfl rfl ?_
  with_reducible repeat' (first | apply And.intro | exact flatI | exact flatS | exact rowLens | (intro; skip) | apply obsN | apply obsC | apply obA | apply obM | apply obB | apply svA | apply tupA | apply lcA | apply lcS | apply svC | apply liC | apply lbC | apply lsC | apply vIc | apply vBc | apply vSc | apply vLc | apply mapC | apply Hc_eqStringSLa | apply Ec_eqStringSLa | apply Sc_eqStringSLa | apply EW1c_eqStringSLa)
  all_goals (try simp only [std] at *)
  all_goals (try (first | with_reducible rfl | omega | assumption | (refine (decide_eq_true ?_).symm; assumption) | (refine (decide_eq_false ?_).symm; assumption) | (refine rowGet ?_; (first | omega | (simp only [std]; omega) | grind)) | (refine getC ?_ rfl; (first | omega | (simp only [std]; omega) | grind)) | (refine fill_step ?_ ?_; (first | omega | (simp only [std]; omega) | grind); (first | rfl | exact (Row.eq _).trans rfl)) | (refine fill_init ?_; (first | rfl | exact (Row.eq _).trans rfl)) | grind [snocI, snocS, rowSnoc]))
abbrev P_c_eqDatumS (A : List Datum) (B : List Datum) : Prop := CallOK Try.prog 131 [] [ll (A.map datumC), ll (B.map datumC)] [] (.sv (lb (decide (A = B))))
abbrev P_c_eqDatum (x : Datum) (y : Datum) : Prop := CallOK Try.prog 46 [] [datumA x, datumA y] [] (.sv (lb (decide (x = y))))
def Tc_eqDatumSLa (A : List Datum) (B : List Datum) (x0 : SV) : St := St.mk (regsOf 27 [(0, AV.sv (ll (List.map datumC A))), (1, AV.sv (ll (List.map datumC B))), (5, AV.sv x0)]) []
 0 
def Lc_eqDatumSLa (A : List Datum) (B : List Datum) (k : Nat) : St := Tc_eqDatumSLa A B (li (↑k : Int)) 
def Ic_eqDatumSLa (A : List Datum) (B : List Datum) : Nat → St → Prop := Head (Lc_eqDatumSLa A B) (fun k => k ≤ List.length A ∧ List.length A ≤ 9223372036854775807 ∧ List.length A
 = List.length B ∧ List.take k A = List.take k B) fun k => List.length A - k 
def W0c_eqDatumSLa (A : List Datum) (B : List Datum) : St := St.mk (regsOf 27 []) [] 0 
def W1c_eqDatumSLa (A : List Datum) (B : List Datum) (x0 : SV) : St := St.mk (regsOf 27 [(4, AV.sv x0)]) [] 0 
def Yc_eqDatumSLa (A : List Datum) (B : List Datum) : List (Prop × AEx × St) := [(A = B, AEx.exit 0, W0c_eqDatumSLa A B), (A ≠ B, AEx.ret, W1c_eqDatumSLa A B (lb false))]
theorem Hc_eqDatumSLa {A : List Datum} {B : List Datum} {k : Nat} {m : Nat} (h : (fun k => k ≤ List.length A ∧ List.length A ≤ 9223372036854775807 ∧ List.length A = List.length B ∧
 List.take k A = List.take k B) k) (hm : (fun k => List.length A - k) k = m) : Ic_eqDatumSLa A B m (Lc_eqDatumSLa A B k) := hm ▸ Head.mk h
theorem Ec_eqDatumSLa {A : List Datum} {B : List Datum} {k : Nat} {x0 : SV} (h0 : x0 = (li (↑k : Int))) : Tc_eqDatumSLa A B x0 = Lc_eqDatumSLa A B k := by
  rw [h0]
  rfl
theorem EW1c_eqDatumSLa {A : List Datum} {B : List Datum} {x0 y0 : SV} (h0 : x0 = y0) : W1c_eqDatumSLa A B x0 = W1c_eqDatumSLa A B y0 := by rw [h0]
theorem run_c_eqDatumSLa (A : List Datum) (B : List Datum) (k : Nat) : aexec Try.prog (loopAt Try.f131 0) (Lc_eqDatumSLa A B k) [Orc.br [Orc.draw [], Orc.cells (datumF (List.getD A
 k default)), Orc.cells (datumF (List.getD B k default)), Orc.call [Mode.rd, Mode.rd] [] (AV.sv (lb (decide (List.getD A k default = List.getD B k default)))), Orc.br [Orc.ghost
 (Ghost.sel [] [4]), Orc.out 1] [Orc.ghost (Ghost.sel [] [0, 1, 5]), Orc.goto (List.length A - (k + 1)) (Lc_eqDatumSLa A B (k + 1))]] [Orc.ghost (Ghost.sel [] []), Orc.out 0]]
 (loopK (Ic_eqDatumSLa A B) (Yc_eqDatumSLa A B) (List.length A - k)) = (List.length (List.map datumC A) ≤ 9223372036854775807 → (decide ((↑k : Int) < (↑(List.length (List.map
 datumC A)) : Int)) = true → (0 ≤ (↑k : Int) ∧ (List.map datumC A)[Int.toNat (↑k : Int)]? = some (datumF (List.getD A k default))) ∧ (0 ≤ (↑k : Int) ∧ (List.map datumC B)[Int.toNat
 (↑k : Int)]? = some (datumF (List.getD B k default))) ∧ P_c_eqDatum (List.getD A k default) (List.getD B k default) ∧ ((!decide (List.getD A k default = List.getD B k default)) =
 true → A ≠ B ∧ W1c_eqDatumSLa A B (lb false) = W1c_eqDatumSLa A B (lb false)) ∧ ((!decide (List.getD A k default = List.getD B k default)) = false → rng IntKind.i64 ((↑k : Int) +
 1) ∧ List.length A - (k + 1) < List.length A - k ∧ Tc_eqDatumSLa A B (li ((↑k : Int) + 1)) = Lc_eqDatumSLa A B (k + 1) ∧ Ic_eqDatumSLa A B (List.length A - (k + 1)) (Lc_eqDatumSLa
 A B (k + 1)))) ∧ (decide ((↑k : Int) < (↑(List.length (List.map datumC A)) : Int)) = false → A = B ∧ W0c_eqDatumSLa A B = W0c_eqDatumSLa A B)) := by kernel_rfl
theorem Sc_eqDatumSLa (A : List Datum) (B : List Datum) (ih : ∀ (x : Datum), x ∈ A → ∀ (y : Datum), P_c_eqDatum x y)  : LoopSem Try.prog (loopAt Try.f131 0) (Ic_eqDatumSLa A B)
 (Yc_eqDatumSLa A B) := by
  refine LoopSem.ofHead wide fun k h => ⟨_, _, run_c_eqDatumSLa A B k, ?_⟩
  with_reducible repeat' (first | apply And.intro | exact flatI | exact flatS | exact rowLens | exact ih | (intro; skip) | apply obsN | apply obsC | apply obA | apply obM | apply obB | apply svA | apply tupA | apply lcA | apply lcS | apply svC | apply liC | apply lbC | apply lsC | apply vIc | apply vBc | apply vSc | apply vLc | apply mapC | apply Hc_eqDatumSLa | apply Ec_eqDatumSLa | apply EW1c_eqDatumSLa | apply ih)
  all_goals (try simp only [std] at *)
  all_goals (try (first | with_reducible rfl | omega | assumption | (refine (decide_eq_true ?_).symm; assumption) | (refine (decide_eq_false ?_).symm; assumption) | (refine rowGet ?_; (first | omega | (simp only [std]; omega) | grind)) | (refine getC ?_ rfl; (first | omega | (simp only [std]; omega) | grind)) | (refine fill_step ?_ ?_; (first | omega | (simp only [std]; omega) | grind); (first | rfl | exact (Row.eq _).trans rfl)) | (refine fill_init ?_; (first | rfl | exact (Row.eq _).trans rfl)) | grind [take_eq, getD_mem', snocI, snocS, rowSnoc]))
theorem run_c_eqDatumS (A : List Datum) (B : List Datum) : aexec Try.prog (Option.getD (Func.body Try.f131) Code.skip) (entry [] [ll (List.map datumC A), ll (List.map datumC B)]
 27) [Orc.br [Orc.fin []] [Orc.ghost (Ghost.sel [] [0, 1, 5]), Orc.loop (List.length A - 0) (Lc_eqDatumSLa A B 0) (Ic_eqDatumSLa A B) [(A = B, AEx.exit 0, W0c_eqDatumSLa A B,
 [Orc.fin []]), (A ≠ B, AEx.ret, W1c_eqDatumSLa A B (lb false), [Orc.fin []])]]] (finK Try.prog [ResultVar.tmp 4] [] (AV.sv (lb (decide (A = B))))) = (List.length (List.map datumC
 A) ≤ 9223372036854775807 → List.length (List.map datumC B) ≤ 9223372036854775807 → (decide ((↑(List.length (List.map datumC A)) : Int) ≠ (↑(List.length (List.map datumC B)) :
 Int)) = true → ObsEq [] [] ∧ AV.sv (lb false) = AV.sv (lb (decide (A = B)))) ∧ (decide ((↑(List.length (List.map datumC A)) : Int) ≠ (↑(List.length (List.map datumC B)) : Int)) =
 false → Tc_eqDatumSLa A B (li 0) = Lc_eqDatumSLa A B 0 ∧ Ic_eqDatumSLa A B (List.length A - 0) (Lc_eqDatumSLa A B 0) ∧ LoopSem Try.prog (loopAt Try.f131 0) (Ic_eqDatumSLa A B)
 (Yc_eqDatumSLa A B) ∧ (A = B → ObsEq [] [] ∧ AV.sv (lb true) = AV.sv (lb (decide (A = B)))) ∧ ((A = B → False) → ObsEq [] [] ∧ AV.sv (lb false) = AV.sv (lb (decide (A = B)))) ∧
 True)) := by kernel_rfl
theorem c_eqDatumS (A B : List Datum) (ih : ∀ x ∈ A, ∀ (y : Datum), P_c_eqDatum x y)  : P_c_eqDatumS A B := by
  refine CallOK.ofRun wide (run_c_eqDatumS A B) Try.call131 Try.func131 rfl rfl rfl ?_
  with_reducible repeat' (first | apply And.intro | exact flatI | exact flatS | exact rowLens | exact ih | (intro; skip) | apply obsN | apply obsC | apply obA | apply obM | apply obB | apply svA | apply tupA | apply lcA | apply lcS | apply svC | apply liC | apply lbC | apply lsC | apply vIc | apply vBc | apply vSc | apply vLc | apply mapC | apply Hc_eqDatumSLa | apply Ec_eqDatumSLa | apply Sc_eqDatumSLa | apply EW1c_eqDatumSLa)
  all_goals (try simp only [std] at *)
  all_goals (try (first | with_reducible rfl | omega | assumption | (refine (decide_eq_true ?_).symm; assumption) | (refine (decide_eq_false ?_).symm; assumption) | (refine rowGet ?_; (first | omega | (simp only [std]; omega) | grind)) | (refine getC ?_ rfl; (first | omega | (simp only [std]; omega) | grind)) | (refine fill_step ?_ ?_; (first | omega | (simp only [std]; omega) | grind); (first | rfl | exact (Row.eq _).trans rfl)) | (refine fill_init ?_; (first | rfl | exact (Row.eq _).trans rfl)) | grind [snocI, snocS, rowSnoc]))
theorem run_c_eqDatum_s (x : Datum) (y : Datum) : aexec Try.prog (Option.getD (Func.body Try.f46) Code.skip) (entry [] [datumA x, datumA y] 26) [Orc.br [Orc.fin []] [Orc.br
 [Orc.fin []] [Orc.br [Orc.fin []] [Orc.call [Mode.rd, Mode.rd] [] (AV.sv (lb (decide (Datum.items x = Datum.items y)))), Orc.br [Orc.fin []] [Orc.fin []]]]]] (finK Try.prog
 [ResultVar.tmp 4] [] (AV.sv (lb (decide (x = y))))) = ((decide (Datum.kind x ≠ Datum.kind y) = true → ObsEq [] [] ∧ AV.sv (lb false) = AV.sv (lb (decide (x = y)))) ∧ (decide
 (Datum.kind x ≠ Datum.kind y) = false → (decide (Datum.number x ≠ Datum.number y) = true → ObsEq [] [] ∧ AV.sv (lb false) = AV.sv (lb (decide (x = y)))) ∧ (decide (Datum.number x
 ≠ Datum.number y) = false → (decide (Array.toList (ByteArray.data (Datum.text x)) ≠ Array.toList (ByteArray.data (Datum.text y))) = true → ObsEq [] [] ∧ AV.sv (lb false) = AV.sv
 (lb (decide (x = y)))) ∧ (decide (Array.toList (ByteArray.data (Datum.text x)) ≠ Array.toList (ByteArray.data (Datum.text y))) = false → P_c_eqDatumS (Datum.items x) (Datum.items
 y) ∧ ((!decide (Datum.items x = Datum.items y)) = true → ObsEq [] [] ∧ AV.sv (lb false) = AV.sv (lb (decide (x = y)))) ∧ ((!decide (Datum.items x = Datum.items y)) = false → ObsEq
 [] [] ∧ AV.sv (lb true) = AV.sv (lb (decide (x = y)))))))) := by kernel_rfl
theorem c_eqDatum_s (x y : Datum) (ih : ∀ z ∈ x.items, ∀ (y : Datum), P_c_eqDatum z y)  : P_c_eqDatum x y := by
  refine CallOK.ofRun wide (run_c_eqDatum_s x y) Try.call46 Try.func46 rfl rfl rfl ?_
  simp only [datumExt]
  with_reducible repeat' (first | apply And.intro | exact flatI | exact flatS | exact rowLens | exact ih | (intro; skip) | apply obsN | apply obsC | apply obA | apply obM | apply obB | apply svA | apply tupA | apply lcA | apply lcS | apply svC | apply liC | apply lbC | apply lsC | apply vIc | apply vBc | apply vSc | apply vLc | apply mapC | apply c_eqDatumS | apply ih)
  all_goals (try simp only [std] at *)
  all_goals (try (first | with_reducible rfl | omega | assumption | (refine (decide_eq_true ?_).symm; assumption) | (refine (decide_eq_false ?_).symm; assumption) | (refine rowGet ?_; (first | omega | (simp only [std]; omega) | grind)) | (refine getC ?_ rfl; (first | omega | (simp only [std]; omega) | grind)) | (refine fill_step ?_ ?_; (first | omega | (simp only [std]; omega) | grind); (first | rfl | exact (Row.eq _).trans rfl)) | (refine fill_init ?_; (first | rfl | exact (Row.eq _).trans rfl)) | grind [bytes_ext, snocI, snocS, rowSnoc]))
theorem c_eqDatum (x : Datum) : ∀ (y : Datum), P_c_eqDatum x y := Datum.ind (P := fun x => ∀ (y : Datum), P_c_eqDatum x y) (fun x ih y => c_eqDatum_s x y ih) x
abbrev P_c_eqModule (x : Module) (y : Module) : Prop := CallOK Try.prog 37 [] [moduleA x, moduleA y] [] (.sv (lb (decide (x = y))))
theorem run_c_eqModule (x : Module) (y : Module) : aexec Try.prog (Option.getD (Func.body Try.f37) Code.skip) (entry [] [moduleA x, moduleA y] 28) [Orc.br [Orc.fin []] [Orc.call
 [Mode.rd, Mode.rd] [] (AV.sv (lb (decide (Module.imports x = Module.imports y)))), Orc.br [Orc.fin []] [Orc.call [Mode.rd, Mode.rd] [] (AV.sv (lb (decide (Module.exports x =
 Module.exports y)))), Orc.br [Orc.fin []] [Orc.call [Mode.rd, Mode.rd] [] (AV.sv (lb (decide (Module.body x = Module.body y)))), Orc.br [Orc.fin []] [Orc.fin []]]]]] (finK
 Try.prog [ResultVar.tmp 4] [] (AV.sv (lb (decide (x = y))))) = ((decide (Array.toList (ByteArray.data (Module.name x)) ≠ Array.toList (ByteArray.data (Module.name y))) = true →
 ObsEq [] [] ∧ AV.sv (lb false) = AV.sv (lb (decide (x = y)))) ∧ (decide (Array.toList (ByteArray.data (Module.name x)) ≠ Array.toList (ByteArray.data (Module.name y))) = false →
 P_c_eqStringS (Module.imports x) (Module.imports y) ∧ ((!decide (Module.imports x = Module.imports y)) = true → ObsEq [] [] ∧ AV.sv (lb false) = AV.sv (lb (decide (x = y)))) ∧
 ((!decide (Module.imports x = Module.imports y)) = false → P_c_eqStringS (Module.exports x) (Module.exports y) ∧ ((!decide (Module.exports x = Module.exports y)) = true → ObsEq []
 [] ∧ AV.sv (lb false) = AV.sv (lb (decide (x = y)))) ∧ ((!decide (Module.exports x = Module.exports y)) = false → P_c_eqDatumS (Module.body x) (Module.body y) ∧ ((!decide
 (Module.body x = Module.body y)) = true → ObsEq [] [] ∧ AV.sv (lb false) = AV.sv (lb (decide (x = y)))) ∧ ((!decide (Module.body x = Module.body y)) = false → ObsEq [] [] ∧ AV.sv
 (lb true) = AV.sv (lb (decide (x = y)))))))) := by kernel_rfl
theorem c_eqModule (x y : Module)  : P_c_eqModule x y := by
  refine CallOK.ofRun wide (run_c_eqModule x y) Try.call37 Try.func37 rfl rfl rfl ?_
  simp only [moduleExt]
  with_reducible repeat' (first | apply And.intro | exact flatI | exact flatS | exact rowLens | (intro; skip) | apply obsN | apply obsC | apply obA | apply obM | apply obB | apply svA | apply tupA | apply lcA | apply lcS | apply svC | apply liC | apply lbC | apply lsC | apply vIc | apply vBc | apply vSc | apply vLc | apply mapC | apply c_eqStringS | apply c_eqDatumS | apply c_eqDatum)
  all_goals (try simp only [std] at *)
  all_goals (try (first | with_reducible rfl | omega | assumption | (refine (decide_eq_true ?_).symm; assumption) | (refine (decide_eq_false ?_).symm; assumption) | (refine rowGet ?_; (first | omega | (simp only [std]; omega) | grind)) | (refine getC ?_ rfl; (first | omega | (simp only [std]; omega) | grind)) | (refine fill_step ?_ ?_; (first | omega | (simp only [std]; omega) | grind); (first | rfl | exact (Row.eq _).trans rfl)) | (refine fill_init ?_; (first | rfl | exact (Row.eq _).trans rfl)) | grind [bytes_ext, snocI, snocS, rowSnoc]))
end Go.Proofs.Ytehpjofddjmbpaa
end
section
namespace Go.Proofs.Ytehpjofddjmbpaa
open Go Go.Proofs.Ytehpjofddjmbpaa.Ab
set_option linter.unusedVariables false
set_option linter.unusedSimpArgs false
set_option maxHeartbeats 4000000
theorem parR_w {d : Datum} : wM (parR d) ≤ wD d := by
  unfold parR; split
  · rename_i h
    simp only [parB, Bool.and_eq_true, decide_eq_true_eq] at h
    exact parM_w (by omega)
  · show wM ⟨mkS [], [], [], []⟩ ≤ wD d
    have : wM ⟨mkS [], [], [], []⟩ = 0 := rfl
    omega
abbrev P_c_LPar (d : Datum) : Prop := CallOK Try.prog 7 [] [datumA d] [] (.sv (lb true))
abbrev a3_c_LPar (d : Datum) := (seqM mkT cOne (Module.exports (parR d)) (1 + (↑(List.length (Module.imports (parR d))) : Int)))
abbrev a2_c_LPar (d : Datum) := (seqM mkD cD (Module.body (parR d)) (1 + (↑(List.length (Module.imports (parR d))) : Int) + (↑(List.length (Module.exports (parR d))) : Int)))
abbrev a1_c_LPar (d : Datum) := (1 + (↑(List.length (seqM mkT cOne (Module.imports (parR d)) 1)) : Int) + (↑(List.length (a3_c_LPar d)) : Int) + (↑(sumBy cD (a2_c_LPar d)) : Int) ≠
 1 + (↑(List.length (Module.imports (parR d))) : Int) + (↑(List.length (Module.exports (parR d))) : Int) + (↑(sumBy cD (Module.body (parR d))) : Int))
theorem run_c_LPar (d : Datum) : aexec Try.prog (Option.getD (Func.body Try.f7) Code.skip) (entry [] [datumA d] 96) [Orc.call [Mode.rd, Mode.rd] [] (AV.sv (li (sz (wD d)
 1048576))), Orc.br [Orc.fin []] [Orc.call [Mode.rd] (datumO d) (AV.sv (datumR d 0)), Orc.ghost (Ghost.lock 1), Orc.call [Mode.rd] [] (AV.tup [SV.agg (vals (moduleF (parR d))), lb
 (parB d)]), Orc.call [Mode.rd] (datumO d) (AV.sv (datumR d 0)), Orc.call [Mode.rd] (moduleO (parR d)) (AV.tup [moduleR (parR d) 0, lb (parB d)]), Orc.call [Mode.rd, Mode.rd] []
 (AV.sv (lb (decide (parR d = parR d)))), Orc.br [Orc.bool true, Orc.fin []] [Orc.br [Orc.fin []] [Orc.draw [], Orc.call [Mode.rd] (datumO d) (AV.sv (datumR d 0)), Orc.call
 [Mode.rd, Mode.rd] [] (AV.sv (lb (decide (d = d)))), Orc.br [Orc.fin []] [Orc.call [Mode.agg [none, none, none, some (true, 4)], Mode.rd] [Ob.arr true 4 (List.map datumC (seqM mkD
 cD (Datum.items d) 1))] (AV.sv (li (1 + (↑(sumBy cD (Datum.items d)) : Int)))), Orc.bool false, Orc.call [Mode.rd, Mode.rd] [] (AV.sv (lb (decide (parR d = parR d)))), Orc.br
 [Orc.bool true, Orc.fin []] [Orc.br [Orc.fin []] [Orc.call [Mode.agg [none, some (true, 1), some (true, 1), some (true, 4)], Mode.rd] [Ob.arr true 1 (List.map strC (seqM mkT cOne
 (Module.imports (parR d)) 1)), Ob.arr true 1 (List.map strC (a3_c_LPar d)), Ob.arr true 4 (List.map datumC (a2_c_LPar d))] (AV.sv (li (1 + (↑(List.length (Module.imports (parR
 d))) : Int) + (↑(List.length (Module.exports (parR d))) : Int) + (↑(sumBy cD (Module.body (parR d))) : Int)))), Orc.call [Mode.rd, Mode.rd] [] (AV.sv (li (1 + (↑(List.length (seqM
 mkT cOne (Module.imports (parR d)) 1)) : Int) + (↑(List.length (a3_c_LPar d)) : Int) + (↑(sumBy cD (a2_c_LPar d)) : Int)))), Orc.bool false, Orc.br [Orc.fin []] [Orc.call
 [Mode.rd] (datumO d) (AV.sv (datumR d 0)), Orc.call [Mode.rd] (moduleO (parR d)) (AV.tup [moduleR (parR d) 0, lb (parB d)]), Orc.call [Mode.rd, Mode.rd] [] (AV.sv (lb (decide
 (parR d = parR d)))), Orc.br [Orc.bool true, Orc.fin []] [Orc.br [Orc.fin []] [Orc.call [Mode.rd, Mode.rd] [] (AV.sv (li (1 + (↑(List.length (seqM mkT cOne (Module.imports (parR
 d)) 1)) : Int) + (↑(List.length (a3_c_LPar d)) : Int) + (↑(sumBy cD (a2_c_LPar d)) : Int)))), Orc.bool false, Orc.br [Orc.fin []] [Orc.fin []]]]]]]]]]]] (finK Try.prog
 [ResultVar.tmp 2] [] (AV.sv (lb true))) = (P_c_szDatum d 1048576 ∧ (decide (sz (wD d) (1048576 : Int) < 0) = true → ObsEq [] [] ∧ AV.sv (lb true) = AV.sv (lb true)) ∧ (decide (sz
 (wD d) (1048576 : Int) < 0) = false → P_c_toDatum d ∧ P_c_sParse d ∧ P_c_toDatum d ∧ P_c_iParse d ∧ P_c_eqModule (parR d) (parR d) ∧ ((!decide (parR d = parR d)) = true → true =
 true ∧ ObsEq [] [] ∧ AV.sv (lb false) = AV.sv (lb true)) ∧ ((!decide (parR d = parR d)) = false → (decide (parB d ≠ parB d) = true → ObsEq [] [] ∧ AV.sv (lb false) = AV.sv (lb
 true)) ∧ (decide (parB d ≠ parB d) = false → P_c_toDatum d ∧ P_c_eqDatum d d ∧ ((!decide (d = d)) = true → ObsEq [] [] ∧ AV.sv (lb false) = AV.sv (lb true)) ∧ ((!decide (d = d)) =
 false → P_c_markDatum d 1 ∧ false = false ∧ P_c_eqModule (parR d) (parR d) ∧ ((!decide (parR d = parR d)) = true → true = true ∧ ObsEq [] [] ∧ AV.sv (lb false) = AV.sv (lb true))
 ∧ ((!decide (parR d = parR d)) = false → (decide (parB d ≠ parB d) = true → ObsEq [] [] ∧ AV.sv (lb false) = AV.sv (lb true)) ∧ (decide (parB d ≠ parB d) = false → P_c_markModule
 (parR d) 1 ∧ P_c_heldModule (Module.mk (Module.name (parR d)) (seqM mkT cOne (Module.imports (parR d)) 1) (a3_c_LPar d) (a2_c_LPar d)) 1 ∧ false = false ∧ (decide (a1_c_LPar d) =
 true → ObsEq [] [] ∧ AV.sv (lb false) = AV.sv (lb true)) ∧ (decide (a1_c_LPar d) = false → P_c_toDatum d ∧ P_c_iParse d ∧ P_c_eqModule (parR d) (parR d) ∧ ((!decide (parR d = parR
 d)) = true → true = true ∧ ObsEq [] [] ∧ AV.sv (lb false) = AV.sv (lb true)) ∧ ((!decide (parR d = parR d)) = false → (decide (parB d ≠ parB d) = true → ObsEq [] [] ∧ AV.sv (lb
 false) = AV.sv (lb true)) ∧ (decide (parB d ≠ parB d) = false → P_c_heldModule (Module.mk (Module.name (parR d)) (seqM mkT cOne (Module.imports (parR d)) 1) (a3_c_LPar d)
 (a2_c_LPar d)) 1 ∧ false = false ∧ (decide (a1_c_LPar d) = true → ObsEq [] [] ∧ AV.sv (lb false) = AV.sv (lb true)) ∧ (decide (a1_c_LPar d) = false → ObsEq [] [] ∧ AV.sv (lb true)
 = AV.sv (lb true)))))))))))) := by kernel_rfl
theorem c_LPar (d : Datum)  : P_c_LPar d := by
  refine CallOK.ofRun wide (run_c_LPar d) Try.call7 Try.func7 rfl rfl rfl ?_
  try delta a3_c_LPar a2_c_LPar a1_c_LPar
  have h1 := cD_le d
  have h2 := cD_eq d
  have h3 := cM_le (parR d)
  have h4 := cM_eq (parR d)
  have h5 := @parR_w d
  with_reducible repeat' (first | apply And.intro | exact flatI | exact flatS | exact rowLens | (intro; skip) | apply obsN | apply obsC | apply obA | apply obM | apply obB | apply svA | apply tupA | apply lcA | apply lcS | apply svC | apply liC | apply lbC | apply lsC | apply vIc | apply vBc | apply vSc | apply vLc | apply mapC | apply c_szDatum | apply c_toDatum | apply c_eqDatum | apply c_eqModule | apply c_sParse | apply c_iParse | apply c_markDatum | apply c_markModule | apply c_heldModule)
  all_goals (try simp only [std, stdM] at *)
  all_goals (try (first | with_reducible apply c_szDatum | with_reducible apply c_toDatum | with_reducible apply c_eqDatum | with_reducible apply c_eqModule | with_reducible apply c_sParse | with_reducible apply c_iParse | with_reducible apply c_markDatum | with_reducible apply c_markModule | with_reducible apply c_heldModule | (simp only [← List.map_append]; first | with_reducible apply c_szDatum | with_reducible apply c_toDatum | with_reducible apply c_eqDatum | with_reducible apply c_eqModule | with_reducible apply c_sParse | with_reducible apply c_iParse | with_reducible apply c_markDatum | with_reducible apply c_markModule | with_reducible apply c_heldModule)))
  all_goals (try (first | with_reducible rfl | omega | assumption | (refine (decide_eq_true ?_).symm; assumption) | (refine (decide_eq_false ?_).symm; assumption) | (refine rowGet ?_; (first | omega | (simp only [std, stdM]; omega) | grind)) | (refine getC ?_ rfl; (first | omega | (simp only [std, stdM]; omega) | grind)) | (refine fill_step ?_ ?_; (first | omega | (simp only [std, stdM]; omega) | grind); (first | rfl | exact (Row.eq _).trans rfl)) | (refine fill_init ?_; (first | rfl | exact (Row.eq _).trans rfl)) | (refine set_row ?_; (simp only [List.length_map, List.length_set, mkTo_len]; omega)) | (refine mkToRow ?_; (first | omega | (simp only [std, stdM]; omega) | grind)) | (refine mkTo_row ?_ rfl; (first | omega | (simp only [std, stdM]; omega) | grind)) | (refine mkTo_step ?_ ?_; (first | omega | (simp only [std, stdM]; omega) | grind); (first | grind [sz, seqM_idem, seqM_len, sum_seqM, snocI, snocS, rowSnoc])) | (show (_ : St) = _; rfl) | grind [sz, seqM_idem, seqM_len, sum_seqM, snocI, snocS, rowSnoc]))
end Go.Proofs.Ytehpjofddjmbpaa
end
section
namespace Go.Proofs.Ytehpjofddjmbpaa.fnExactParseModule
open Go Go.ChangeShapes Go.WideShapes Go.ChangeAt Go.RowKit Go.Proofs.Ytehpjofddjmbpaa.Ab
set_option linter.unusedVariables false
theorem own : ownKnob Try.prog.godebug = none := by kernel_rfl
theorem laid : laidOutB Try.prog = true := by kernel_rfl
theorem rowed : mapsRowed Try.prog = true := by kernel_rfl
theorem sized : ((List.range Try.prog.types.size).all fun t => match Try.prog.underlying t with | some (.slice e) => decide (0 < Try.prog.cellsOf e) | _ => true) = true := by kernel_rfl
set_option maxRecDepth 100000 in
theorem lifted (os : Os) (started : os.Started) (H : Type) (enc : TypeId × Value → H) :
    ReturnsInHanded {} Try.checked os 7 .any (Rows.fnExactParseModuleSpec.pre6 enc Try.prog Try.f7 Rows.fnExactParseModuleRow.domain false) (Rows.fnExactParseModuleSpec.post enc Try.prog Try.f7 false true false false) := by
  refine returnsInHanded_of_change (C := Try.checked) own started (by kernel_rfl) Try.func7
    (ChangeSpec.witness6 (enc := enc) (C := Try.checked) false ⟨#[], #[.agg #[.int .i64 0, .int .i64 0, .string ⟨#[]⟩, .slice none 0 0]], []⟩ 12 (by kernel_rfl) (by kernel_rfl) (by kernel_rfl) (by kernel_rfl)) ?_
  intro W base args ds gs before hval0 hW hcnd _
  have hval : ∀ (j : Nat) t v, Try.f7.params[j]? = some t → args[j]? = some v → Value.okWide Try.prog W .any base t v := hval0
  have hW' := hW
  obtain ⟨p, q, hA0, hV, rfl, hfz, hnd⟩ := hW
  obtain ⟨rfl, rfl⟩ := trodVars_none hV
  have hA : DataW.TrodAll enc Try.prog W 0 (fun _ => true) true Try.f7.params.toList args.toList ds p := hA0
  rw [Try.params7] at hA hval
  have hA2 := hA
  clear hA0 hval0
  obtain ⟨v0, vs0, d0, ds0, p0, q0, hargs0, rfl, rfl, h0, r0⟩ := trodAll_cons hA
  obtain ⟨rfl, rfl, rfl⟩ := trodAll_nil r0
  obtain rfl : args = #[v0] := by cases args; simp_all
  obtain ⟨a0, c0⟩ := (let ⟨fuel, hf⟩ := h0; rd_datum fuel _ _ hf)
  have s0 : SVRel W (allI W) (obOf []) (datumA a0) v0 := agg_rel (let ⟨cs, h, _⟩ := okWide_struct Try.underlying61 (hval 0 61 v0 rfl rfl); ⟨cs, h⟩) c0
  refine (CallOK.kept (w := W) (vals := #[v0]) (c_LPar a0) ⟨s0, trivial⟩).mono fun e W' ⟨he, hg, _⟩ => ?_
  subst he
  exact ⟨_, rfl, post_of_kept (pv := []) hW' (fun _ _ _ => (trodAll_cons_mk (shut_bool Try.underlying4 _) trodAll_mk0))
    (fun sp hsp => trodAll_kept laid rowed sized hg (by decide +kernel) hA2 fun y hy => hsp y (by simpa using hy)) (fun _ _ => rfl) rfl
    hg (ok_one (by kernel_rfl) rfl (okWide_bool_mk Try.underlying4 _))⟩
set_option maxRecDepth 100000 in
set_option maxHeartbeats 0 in
theorem facts : joinedFacts Try.pinned.checked.prog 7 Try.f7 Rows.fnExactParseModuleSpec Rows.fnExactParseModuleRow = true := by
  delta joinedFacts
  with_reducible repeat' apply and_i
  all_goals (first | with_reducible exact enters | (rw [makes]; kernel_rfl) | (rw [lifts]; kernel_rfl) | decide +kernel)
theorem over : Rows.fnExactParseModuleRow.holds Try.pinned (OpenSpec.ofChange Rows.fnExactParseModuleSpec) :=
  OpenClaim.holds_of_wide 7 Try.f7 rfl rfl rfl rfl rfl rfl rfl ⟨rfl, rfl, rfl, rfl, rfl⟩ rfl rfl rfl rfl rfl (by kernel_rfl) Try.func7 facts
    (of_decide_eq_true (by kernel_rfl)) (by unfold Func.isWrapper; first | (rw [if_pos (by decide +kernel)]; kernel_rfl) | (rw [if_neg (by decide +kernel)]; exact ⟨rfl, rfl⟩))
    (fun os started H enc _ => lifted os started H enc)
theorem proved : Rows.FnExactParseModuleSaid :=
  over
end Go.Proofs.Ytehpjofddjmbpaa.fnExactParseModule
end
