/- The law FnExactNewExpander holds: NewExpander answers as the reference's does. No condition. -/
import Derived.Test.YtehpjofddjmbpaaQ4
section
namespace Go.Proofs.Ytehpjofddjmbpaa
open Go Go.Proofs.Ytehpjofddjmbpaa.Ab
set_option linter.unusedVariables false
set_option linter.unusedSimpArgs false
set_option maxHeartbeats 4000000
def formNames : List ByteArray := [mkS [113, 117, 111, 116, 101], mkS [108, 97, 109, 98, 100, 97], mkS [105, 102], mkS [115, 101, 116, 33], mkS [98, 101, 103, 105, 110], mkS [114, 101, 115, 101, 116], mkS [115, 104, 105, 102, 116], mkS [100, 101, 102, 105, 110, 101], mkS [100, 101, 102, 105, 110, 101, 45, 115, 121, 110, 116, 97, 120], mkS [108, 101, 116, 45, 115, 121, 110, 116, 97, 120], mkS [115, 121, 110, 116, 97, 120, 45, 114, 117, 108, 101, 115], mkS [108, 111, 99, 97, 108]]
def primNames : List ByteArray := [mkS [43], mkS [45], mkS [42], mkS [61], mkS [60], mkS [99, 111, 110, 115], mkS [99, 97, 114], mkS [99, 100, 114], mkS [110, 117, 108, 108, 63], mkS [112, 97, 105, 114, 63], mkS [110, 117, 109, 98, 101, 114, 63], mkS [101, 113, 63], mkS [110, 111, 116], mkS [100, 105, 115, 112, 108, 97, 121]]
def bindFrom (kind : Int) : List ByteArray → Int → List Binding
  | [], _ => []
  | s :: r, i => ⟨s, [], kind, i⟩ :: bindFrom kind r (i + 1)
def coreBindings : List Binding := bindFrom 1 formNames 0 ++ bindFrom 2 primNames 0
def bindTo (k : Nat) : List Binding := coreBindings.take k
theorem bindTo_len {k : Nat} : (bindTo k).length ≤ k := by unfold bindTo; rw [List.length_take]; exact Nat.min_le_left _ _
theorem formTo_step {k : Nat} (h : k < 12) : bindTo (k + 1) = bindTo k ++ [⟨formNames.getD k default, [], 1, k⟩] := by
  have : ∀ k, k < 12 → bindTo (k + 1) = bindTo k ++ [⟨formNames.getD k default, [], 1, k⟩] := by
    intro k h; have : k = 0 ∨ k = 1 ∨ k = 2 ∨ k = 3 ∨ k = 4 ∨ k = 5 ∨ k = 6 ∨ k = 7 ∨ k = 8 ∨ k = 9 ∨ k = 10 ∨ k = 11 := by omega
    rcases this with rfl | rfl | rfl | rfl | rfl | rfl | rfl | rfl | rfl | rfl | rfl | rfl <;> rfl
  exact this k h
theorem primTo_step {k : Nat} (h : k < 14) : bindTo (12 + (k + 1)) = bindTo (12 + k) ++ [⟨primNames.getD k default, [], 2, k⟩] := by
  have : ∀ k, k < 14 → bindTo (12 + (k + 1)) = bindTo (12 + k) ++ [⟨primNames.getD k default, [], 2, k⟩] := by
    intro k h; have : k = 0 ∨ k = 1 ∨ k = 2 ∨ k = 3 ∨ k = 4 ∨ k = 5 ∨ k = 6 ∨ k = 7 ∨ k = 8 ∨ k = 9 ∨ k = 10 ∨ k = 11 ∨ k = 12 ∨ k = 13 := by omega
    rcases this with rfl | rfl | rfl | rfl | rfl | rfl | rfl | rfl | rfl | rfl | rfl | rfl | rfl | rfl <;> rfl
  exact this k h
def primTo (k : Nat) : List Binding := coreBindings.take (12 + k)
theorem primTo_len {k : Nat} : (primTo k).length ≤ 12 + k := bindTo_len
theorem primTo_next {k : Nat} (h : k < 14) : primTo (k + 1) = primTo k ++ [⟨primNames.getD k default, [], 2, k⟩] := primTo_step h
theorem primTo_zero : bindTo 12 = primTo 0 := rfl
theorem bindTo_nil : bindTo 0 = [] := rfl
theorem bindTo_all : primTo 14 = coreBindings := rfl
abbrev P_c_sFormNames  : Prop := CallOK Try.prog 211 [] [] [.arr true 1 (formNames.map strC)] (.sv (.one (.ref 0)))
theorem run_c_sFormNames : aexec Try.prog (Option.getD (Func.body Try.f211) Code.skip) (entry [] [] 2) [Orc.fin [0]] (finK Try.prog [ResultVar.tmp 0] [Ob.arr true 1 (List.map strC
 formNames)] (AV.sv (SV.one (AC.ref 0)))) = (ObsEq [Ob.arr true 1 [[cS (ByteArray.mk #[(113 : UInt8), (117 : UInt8), (111 : UInt8), (116 : UInt8), (101 : UInt8)])], [cS
 (ByteArray.mk #[(108 : UInt8), (97 : UInt8), (109 : UInt8), (98 : UInt8), (100 : UInt8), (97 : UInt8)])], [cS (ByteArray.mk #[(105 : UInt8), (102 : UInt8)])], [cS (ByteArray.mk
 #[(115 : UInt8), (101 : UInt8), (116 : UInt8), (33 : UInt8)])], [cS (ByteArray.mk #[(98 : UInt8), (101 : UInt8), (103 : UInt8), (105 : UInt8), (110 : UInt8)])], [cS (ByteArray.mk
 #[(114 : UInt8), (101 : UInt8), (115 : UInt8), (101 : UInt8), (116 : UInt8)])], [cS (ByteArray.mk #[(115 : UInt8), (104 : UInt8), (105 : UInt8), (102 : UInt8), (116 : UInt8)])],
 [cS (ByteArray.mk #[(100 : UInt8), (101 : UInt8), (102 : UInt8), (105 : UInt8), (110 : UInt8), (101 : UInt8)])], [cS (ByteArray.mk #[(100 : UInt8), (101 : UInt8), (102 : UInt8),
 (105 : UInt8), (110 : UInt8), (101 : UInt8), (45 : UInt8), (115 : UInt8), (121 : UInt8), (110 : UInt8), (116 : UInt8), (97 : UInt8), (120 : UInt8)])], [cS (ByteArray.mk #[(108 :
 UInt8), (101 : UInt8), (116 : UInt8), (45 : UInt8), (115 : UInt8), (121 : UInt8), (110 : UInt8), (116 : UInt8), (97 : UInt8), (120 : UInt8)])], [cS (ByteArray.mk #[(115 : UInt8),
 (121 : UInt8), (110 : UInt8), (116 : UInt8), (97 : UInt8), (120 : UInt8), (45 : UInt8), (114 : UInt8), (117 : UInt8), (108 : UInt8), (101 : UInt8), (115 : UInt8)])], [cS
 (ByteArray.mk #[(108 : UInt8), (111 : UInt8), (99 : UInt8), (97 : UInt8), (108 : UInt8)])]]] [Ob.arr true 1 (List.map strC formNames)] ∧ AV.sv (SV.one (AC.ref 0)) = AV.sv (SV.one
 (AC.ref 0))) := by kernel_rfl
theorem c_sFormNames   : P_c_sFormNames := by
  refine CallOK.ofRun wide (run_c_sFormNames) Try.call211 Try.func211 rfl rfl rfl ?_
  with_reducible repeat' (first | apply And.intro | exact flatI | exact flatS | exact rowLens | (intro; skip) | apply obsN | apply obsC | apply obA | apply obM | apply obB | apply svA | apply tupA | apply lcA | apply lcS | apply svC | apply liC | apply lbC | apply lsC | apply vIc | apply vBc | apply vSc | apply vLc | apply mapC)
  all_goals (try simp only [std] at *)
  all_goals (try (first | with_reducible rfl | omega | assumption | (refine (decide_eq_true ?_).symm; assumption) | (refine (decide_eq_false ?_).symm; assumption) | (refine rowGet ?_; (first | omega | (simp only [std]; omega) | grind)) | (refine getC ?_ rfl; (first | omega | (simp only [std]; omega) | grind)) | (refine fill_step ?_ ?_; (first | omega | (simp only [std]; omega) | grind); (first | rfl | exact (Row.eq _).trans rfl)) | (refine fill_init ?_; (first | rfl | exact (Row.eq _).trans rfl)) | grind [snocI, snocS, rowSnoc]))
  all_goals rfl
abbrev P_c_sPrimitiveNames  : Prop := CallOK Try.prog 212 [] [] [.arr true 1 (primNames.map strC)] (.sv (.one (.ref 0)))
theorem run_c_sPrimitiveNames : aexec Try.prog (Option.getD (Func.body Try.f212) Code.skip) (entry [] [] 2) [Orc.fin [0]] (finK Try.prog [ResultVar.tmp 0] [Ob.arr true 1 (List.map
 strC primNames)] (AV.sv (SV.one (AC.ref 0)))) = (ObsEq [Ob.arr true 1 [[cS (ByteArray.mk #[(43 : UInt8)])], [cS (ByteArray.mk #[(45 : UInt8)])], [cS (ByteArray.mk #[(42 :
 UInt8)])], [cS (ByteArray.mk #[(61 : UInt8)])], [cS (ByteArray.mk #[(60 : UInt8)])], [cS (ByteArray.mk #[(99 : UInt8), (111 : UInt8), (110 : UInt8), (115 : UInt8)])], [cS
 (ByteArray.mk #[(99 : UInt8), (97 : UInt8), (114 : UInt8)])], [cS (ByteArray.mk #[(99 : UInt8), (100 : UInt8), (114 : UInt8)])], [cS (ByteArray.mk #[(110 : UInt8), (117 : UInt8),
 (108 : UInt8), (108 : UInt8), (63 : UInt8)])], [cS (ByteArray.mk #[(112 : UInt8), (97 : UInt8), (105 : UInt8), (114 : UInt8), (63 : UInt8)])], [cS (ByteArray.mk #[(110 : UInt8),
 (117 : UInt8), (109 : UInt8), (98 : UInt8), (101 : UInt8), (114 : UInt8), (63 : UInt8)])], [cS (ByteArray.mk #[(101 : UInt8), (113 : UInt8), (63 : UInt8)])], [cS (ByteArray.mk
 #[(110 : UInt8), (111 : UInt8), (116 : UInt8)])], [cS (ByteArray.mk #[(100 : UInt8), (105 : UInt8), (115 : UInt8), (112 : UInt8), (108 : UInt8), (97 : UInt8), (121 : UInt8)])]]]
 [Ob.arr true 1 (List.map strC primNames)] ∧ AV.sv (SV.one (AC.ref 0)) = AV.sv (SV.one (AC.ref 0))) := by kernel_rfl
theorem c_sPrimitiveNames   : P_c_sPrimitiveNames := by
  refine CallOK.ofRun wide (run_c_sPrimitiveNames) Try.call212 Try.func212 rfl rfl rfl ?_
  with_reducible repeat' (first | apply And.intro | exact flatI | exact flatS | exact rowLens | (intro; skip) | apply obsN | apply obsC | apply obA | apply obM | apply obB | apply svA | apply tupA | apply lcA | apply lcS | apply svC | apply liC | apply lbC | apply lsC | apply vIc | apply vBc | apply vSc | apply vLc | apply mapC)
  all_goals (try simp only [std] at *)
  all_goals (try (first | with_reducible rfl | omega | assumption | (refine (decide_eq_true ?_).symm; assumption) | (refine (decide_eq_false ?_).symm; assumption) | (refine rowGet ?_; (first | omega | (simp only [std]; omega) | grind)) | (refine getC ?_ rfl; (first | omega | (simp only [std]; omega) | grind)) | (refine fill_step ?_ ?_; (first | omega | (simp only [std]; omega) | grind); (first | rfl | exact (Row.eq _).trans rfl)) | (refine fill_init ?_; (first | rfl | exact (Row.eq _).trans rfl)) | grind [snocI, snocS, rowSnoc]))
  all_goals rfl
abbrev P_c_sCoreBindings  : Prop := CallOK Try.prog 105 [] [] [.arr true 4 (coreBindings.map bindingC)] (.sv (.one (.ref 0)))
def Tc_sCoreBindingsLa (x0 : SV) (x1 : Ob) : St := St.mk (regsOf 36 [(1, AV.sv (SV.one (AC.ref 0))), (7, AV.sv (SV.one (AC.ref 1))), (8, AV.sv (li 12)), (9, AV.sv x0)]) [x1, Ob.arr
 true 1 (List.map strC formNames)] 0 
def Lc_sCoreBindingsLa (k : Nat) : St := Tc_sCoreBindingsLa (li (↑k : Int)) (Ob.arr true 4 (List.map bindingC (bindTo k))) 
def Ic_sCoreBindingsLa : Nat → St → Prop := Head Lc_sCoreBindingsLa (fun k => k ≤ 12) fun k => 12 - k 
def W0c_sCoreBindingsLa (x0 : Ob) : St := St.mk (regsOf 36 [(1, AV.sv (SV.one (AC.ref 0)))]) [x0] 0 
def Yc_sCoreBindingsLa : List (Prop × AEx × St) := [(True, AEx.exit 0, W0c_sCoreBindingsLa (Ob.arr true 4 (List.map bindingC (primTo 0))))]
theorem Hc_sCoreBindingsLa  {k : Nat} {m : Nat} (h : (fun k => k ≤ 12) k) (hm : (fun k => 12 - k) k = m) : Ic_sCoreBindingsLa  m (Lc_sCoreBindingsLa  k) := hm ▸ Head.mk h
theorem Ec_sCoreBindingsLa  {k : Nat} {x0 : SV} {x1 : Ob} (h0 : x0 = (li (↑k : Int))) (h1 : x1 = (Ob.arr true 4 (List.map bindingC (bindTo k)))) : Tc_sCoreBindingsLa  x0 x1 =
 Lc_sCoreBindingsLa  k := by
  rw [h0, h1]
  rfl
theorem EW0c_sCoreBindingsLa  {x0 y0 : Ob} (h0 : x0 = y0) : W0c_sCoreBindingsLa  x0 = W0c_sCoreBindingsLa  y0 := by rw [h0]
theorem run_c_sCoreBindingsLa (k : Nat) : aexec Try.prog (loopAt Try.f105 0) (Lc_sCoreBindingsLa k) [Orc.br [Orc.cells (strC (List.getD formNames (Int.toNat (↑k : Int)) default)),
 Orc.ghost (Ghost.sel [3, 1] [1, 7, 8, 9]), Orc.goto (12 - (k + 1)) (Lc_sCoreBindingsLa (k + 1))] [Orc.ghost (Ghost.sel [0] [1]), Orc.out 0]] (loopK Ic_sCoreBindingsLa
 Yc_sCoreBindingsLa (12 - k)) = ((decide ((↑k : Int) < 12) = true → (0 ≤ (↑k : Int) ∧ Int.toNat (↑k : Int) < 12) ∧ (List.map strC formNames)[Int.toNat (↑k : Int)]? = some [cS
 (List.getD formNames (Int.toNat (↑k : Int)) default)] ∧ (List.length (List.map bindingC (bindTo k)) + 1) * 56 ≤ 140737488355328 ∧ rng IntKind.i64 ((↑k : Int) + 1) ∧ 12 - (k + 1) <
 12 - k ∧ Tc_sCoreBindingsLa (li ((↑k : Int) + 1)) (Ob.arr true 4 (List.map bindingC (bindTo k) ++ [[cS (List.getD formNames (Int.toNat (↑k : Int)) default), Cell.list [], cI 1, cI
 (↑k : Int)]])) = Lc_sCoreBindingsLa (k + 1) ∧ Ic_sCoreBindingsLa (12 - (k + 1)) (Lc_sCoreBindingsLa (k + 1))) ∧ (decide ((↑k : Int) < 12) = false → True ∧ W0c_sCoreBindingsLa
 (Ob.arr true 4 (List.map bindingC (bindTo k))) = W0c_sCoreBindingsLa (Ob.arr true 4 (List.map bindingC (primTo 0))))) := by kernel_rfl
def Tc_sCoreBindingsLb (x0 : SV) (x1 : Ob) : St := St.mk (regsOf 36 [(1, AV.sv (SV.one (AC.ref 0))), (21, AV.sv (SV.one (AC.ref 1))), (22, AV.sv (li 14)), (23, AV.sv x0)]) [x1,
 Ob.arr true 1 (List.map strC primNames)] 0 
def Lc_sCoreBindingsLb (k : Nat) : St := Tc_sCoreBindingsLb (li (↑k : Int)) (Ob.arr true 4 (List.map bindingC (primTo k))) 
def Ic_sCoreBindingsLb : Nat → St → Prop := Head Lc_sCoreBindingsLb (fun k => k ≤ 14) fun k => 14 - k 
def W0c_sCoreBindingsLb (x0 : Ob) : St := St.mk (regsOf 36 [(1, AV.sv (SV.one (AC.ref 0)))]) [x0] 0 
def Yc_sCoreBindingsLb : List (Prop × AEx × St) := [(True, AEx.exit 2, W0c_sCoreBindingsLb (Ob.arr true 4 (List.map bindingC coreBindings)))]
theorem Hc_sCoreBindingsLb  {k : Nat} {m : Nat} (h : (fun k => k ≤ 14) k) (hm : (fun k => 14 - k) k = m) : Ic_sCoreBindingsLb  m (Lc_sCoreBindingsLb  k) := hm ▸ Head.mk h
theorem Ec_sCoreBindingsLb  {k : Nat} {x0 : SV} {x1 : Ob} (h0 : x0 = (li (↑k : Int))) (h1 : x1 = (Ob.arr true 4 (List.map bindingC (primTo k)))) : Tc_sCoreBindingsLb  x0 x1 =
 Lc_sCoreBindingsLb  k := by
  rw [h0, h1]
  rfl
theorem EW0c_sCoreBindingsLb  {x0 y0 : Ob} (h0 : x0 = y0) : W0c_sCoreBindingsLb  x0 = W0c_sCoreBindingsLb  y0 := by rw [h0]
theorem run_c_sCoreBindingsLb (k : Nat) : aexec Try.prog (loopAt Try.f105 1) (Lc_sCoreBindingsLb k) [Orc.br [Orc.cells (strC (List.getD primNames (Int.toNat (↑k : Int)) default)),
 Orc.ghost (Ghost.sel [3, 1] [1, 21, 22, 23]), Orc.goto (14 - (k + 1)) (Lc_sCoreBindingsLb (k + 1))] [Orc.ghost (Ghost.sel [0] [1]), Orc.out 0]] (loopK Ic_sCoreBindingsLb
 Yc_sCoreBindingsLb (14 - k)) = ((decide ((↑k : Int) < 14) = true → (0 ≤ (↑k : Int) ∧ Int.toNat (↑k : Int) < 14) ∧ (List.map strC primNames)[Int.toNat (↑k : Int)]? = some [cS
 (List.getD primNames (Int.toNat (↑k : Int)) default)] ∧ (List.length (List.map bindingC (primTo k)) + 1) * 56 ≤ 140737488355328 ∧ rng IntKind.i64 ((↑k : Int) + 1) ∧ 14 - (k + 1) <
 14 - k ∧ Tc_sCoreBindingsLb (li ((↑k : Int) + 1)) (Ob.arr true 4 (List.map bindingC (primTo k) ++ [[cS (List.getD primNames (Int.toNat (↑k : Int)) default), Cell.list [], cI 2, cI
 (↑k : Int)]])) = Lc_sCoreBindingsLb (k + 1) ∧ Ic_sCoreBindingsLb (14 - (k + 1)) (Lc_sCoreBindingsLb (k + 1))) ∧ (decide ((↑k : Int) < 14) = false → True ∧ W0c_sCoreBindingsLb
 (Ob.arr true 4 (List.map bindingC (primTo k))) = W0c_sCoreBindingsLb (Ob.arr true 4 (List.map bindingC coreBindings)))) := by kernel_rfl
theorem Sc_sCoreBindingsLb   : LoopSem Try.prog (loopAt Try.f105 1) Ic_sCoreBindingsLb Yc_sCoreBindingsLb := by
  refine LoopSem.ofHead wide fun k h => ⟨_, _, run_c_sCoreBindingsLb k, ?_⟩
  have e : primNames.length = 14 := rfl
  have g := @primTo_len k
  have g2 := @primTo_next k
  with_reducible repeat' (first | apply And.intro | exact flatI | exact flatS | exact rowLens | (intro; skip) | apply obsN | apply obsC | apply obA | apply obM | apply obB | apply svA | apply tupA | apply lcA | apply lcS | apply svC | apply liC | apply lbC | apply lsC | apply vIc | apply vBc | apply vSc | apply vLc | apply mapC | apply Hc_sCoreBindingsLa | apply Ec_sCoreBindingsLa | apply Hc_sCoreBindingsLb | apply Ec_sCoreBindingsLb | apply EW0c_sCoreBindingsLa | apply EW0c_sCoreBindingsLb | apply c_sFormNames | apply c_sPrimitiveNames)
  all_goals (try simp only [std] at *)
  all_goals (try (first | with_reducible rfl | omega | assumption | (refine (decide_eq_true ?_).symm; assumption) | (refine (decide_eq_false ?_).symm; assumption) | (refine rowGet ?_; (first | omega | (simp only [std]; omega) | grind)) | (refine getC ?_ rfl; (first | omega | (simp only [std]; omega) | grind)) | (refine fill_step ?_ ?_; (first | omega | (simp only [std]; omega) | grind); (first | rfl | exact (Row.eq _).trans rfl)) | (refine fill_init ?_; (first | rfl | exact (Row.eq _).trans rfl)) | grind [bindTo_all, snocI, snocS, rowSnoc]))
  all_goals (rw [primTo_next (by omega)]; exact rowSnoc (C := bindingC) (primTo k) ⟨primNames.getD k default, [], 2, k⟩)
theorem Sc_sCoreBindingsLa   : LoopSem Try.prog (loopAt Try.f105 0) Ic_sCoreBindingsLa Yc_sCoreBindingsLa := by
  refine LoopSem.ofHead wide fun k h => ⟨_, _, run_c_sCoreBindingsLa k, ?_⟩
  have e : formNames.length = 12 := rfl
  have g := @bindTo_len k
  have g2 := @formTo_step k
  with_reducible repeat' (first | apply And.intro | exact flatI | exact flatS | exact rowLens | (intro; skip) | apply obsN | apply obsC | apply obA | apply obM | apply obB | apply svA | apply tupA | apply lcA | apply lcS | apply svC | apply liC | apply lbC | apply lsC | apply vIc | apply vBc | apply vSc | apply vLc | apply mapC | apply Hc_sCoreBindingsLa | apply Ec_sCoreBindingsLa | apply Hc_sCoreBindingsLb | apply Ec_sCoreBindingsLb | apply Sc_sCoreBindingsLb | apply EW0c_sCoreBindingsLa | apply EW0c_sCoreBindingsLb | apply c_sFormNames | apply c_sPrimitiveNames)
  all_goals (try simp only [std] at *)
  all_goals (try (first | with_reducible rfl | omega | assumption | (refine (decide_eq_true ?_).symm; assumption) | (refine (decide_eq_false ?_).symm; assumption) | (refine rowGet ?_; (first | omega | (simp only [std]; omega) | grind)) | (refine getC ?_ rfl; (first | omega | (simp only [std]; omega) | grind)) | (refine fill_step ?_ ?_; (first | omega | (simp only [std]; omega) | grind); (first | rfl | exact (Row.eq _).trans rfl)) | (refine fill_init ?_; (first | rfl | exact (Row.eq _).trans rfl)) | grind [bindTo_nil, primTo_zero, snocI, snocS, rowSnoc]))
  all_goals (rw [formTo_step (by omega)]; exact rowSnoc (C := bindingC) (bindTo k) ⟨formNames.getD k default, [], 1, k⟩)
theorem run_c_sCoreBindings : aexec Try.prog (Option.getD (Func.body Try.f105) Code.skip) (entry [] [] 36) [Orc.call [] [Ob.arr true 1 (List.map strC formNames)] (AV.sv (SV.one
 (AC.ref 0))), Orc.ghost (Ghost.sel [0, 1] [1, 7, 8, 9]), Orc.loop 12 (Lc_sCoreBindingsLa 0) Ic_sCoreBindingsLa [(True, AEx.exit 0, W0c_sCoreBindingsLa (Ob.arr true 4 (List.map
 bindingC (primTo 0))), [Orc.call [] [Ob.arr true 1 (List.map strC primNames)] (AV.sv (SV.one (AC.ref 0))), Orc.ghost (Ghost.sel [0, 1] [1, 21, 22, 23]), Orc.loop 14
 (Lc_sCoreBindingsLb 0) Ic_sCoreBindingsLb [(True, AEx.exit 2, W0c_sCoreBindingsLb (Ob.arr true 4 (List.map bindingC coreBindings)), [Orc.fin [0]])]])]] (finK Try.prog
 [ResultVar.tmp 0] [Ob.arr true 4 (List.map bindingC coreBindings)] (AV.sv (SV.one (AC.ref 0)))) = (P_c_sFormNames ∧ (12 ≤ 9223372036854775807 → Tc_sCoreBindingsLa (li 0) (Ob.arr
 true 4 []) = Lc_sCoreBindingsLa 0 ∧ Ic_sCoreBindingsLa 12 (Lc_sCoreBindingsLa 0) ∧ LoopSem Try.prog (loopAt Try.f105 0) Ic_sCoreBindingsLa Yc_sCoreBindingsLa ∧ (True →
 P_c_sPrimitiveNames ∧ (14 ≤ 9223372036854775807 → Tc_sCoreBindingsLb (li 0) (Ob.arr true 4 (List.map bindingC (primTo 0))) = Lc_sCoreBindingsLb 0 ∧ Ic_sCoreBindingsLb 14
 (Lc_sCoreBindingsLb 0) ∧ LoopSem Try.prog (loopAt Try.f105 1) Ic_sCoreBindingsLb Yc_sCoreBindingsLb ∧ (True → ObsEq [Ob.arr true 4 (List.map bindingC coreBindings)] [Ob.arr true 4
 (List.map bindingC coreBindings)] ∧ AV.sv (SV.one (AC.ref 0)) = AV.sv (SV.one (AC.ref 0))) ∧ True)) ∧ True)) := by kernel_rfl
theorem c_sCoreBindings   : P_c_sCoreBindings := by
  refine CallOK.ofRun wide (run_c_sCoreBindings) Try.call105 Try.func105 rfl rfl rfl ?_
  with_reducible repeat' (first | apply And.intro | exact flatI | exact flatS | exact rowLens | (intro; skip) | apply obsN | apply obsC | apply obA | apply obM | apply obB | apply svA | apply tupA | apply lcA | apply lcS | apply svC | apply liC | apply lbC | apply lsC | apply vIc | apply vBc | apply vSc | apply vLc | apply mapC | apply Hc_sCoreBindingsLa | apply Ec_sCoreBindingsLa | apply Sc_sCoreBindingsLa | apply Hc_sCoreBindingsLb | apply Ec_sCoreBindingsLb | apply Sc_sCoreBindingsLb | apply EW0c_sCoreBindingsLa | apply EW0c_sCoreBindingsLb | apply c_sFormNames | apply c_sPrimitiveNames)
  all_goals (try simp only [std] at *)
  all_goals (try (first | with_reducible rfl | omega | assumption | (refine (decide_eq_true ?_).symm; assumption) | (refine (decide_eq_false ?_).symm; assumption) | (refine rowGet ?_; (first | omega | (simp only [std]; omega) | grind)) | (refine getC ?_ rfl; (first | omega | (simp only [std]; omega) | grind)) | (refine fill_step ?_ ?_; (first | omega | (simp only [std]; omega) | grind); (first | rfl | exact (Row.eq _).trans rfl)) | (refine fill_init ?_; (first | rfl | exact (Row.eq _).trans rfl)) | grind [snocI, snocS, rowSnoc]))
  all_goals rfl
abbrev P_c_sNewExpander  : Prop := CallOK Try.prog 19 [] [] [.arr true 4 (coreBindings.map bindingC)] (.sv (.agg [.ref 0, .val (.lit (.slice none 0 0)), vI 0, vI 0, vI 200]))
theorem run_c_sNewExpander : aexec Try.prog (Option.getD (Func.body Try.f19) Code.skip) (entry [] [] 3) [Orc.call [] [Ob.arr true 4 (List.map bindingC coreBindings)] (AV.sv (SV.one
 (AC.ref 0))), Orc.fin [1]] (finK Try.prog [ResultVar.cell 0 25] [Ob.arr true 4 (List.map bindingC coreBindings)] (AV.sv (SV.agg [AC.ref 0, AC.val (Cell.lit (Value.slice none 0
 0)), vI 0, vI 0, vI 200]))) = (P_c_sCoreBindings ∧ ObsEq [Ob.arr true 4 (List.map bindingC coreBindings)] [Ob.arr true 4 (List.map bindingC coreBindings)] ∧ AV.sv (SV.agg [AC.ref
 0, AC.val (Cell.lit (Value.slice none 0 0)), vI 0, vI 0, vI 200]) = AV.sv (SV.agg [AC.ref 0, AC.val (Cell.lit (Value.slice none 0 0)), vI 0, vI 0, vI 200])) := by kernel_rfl
theorem c_sNewExpander   : P_c_sNewExpander := by
  refine CallOK.ofRun wide (run_c_sNewExpander) Try.call19 Try.func19 rfl rfl rfl ?_
  with_reducible repeat' (first | apply And.intro | exact flatI | exact flatS | exact rowLens | (intro; skip) | apply obsN | apply obsC | apply obA | apply obM | apply obB | apply svA | apply tupA | apply lcA | apply lcS | apply svC | apply liC | apply lbC | apply lsC | apply vIc | apply vBc | apply vSc | apply vLc | apply mapC | apply c_sCoreBindings)
  all_goals (try simp only [std] at *)
  all_goals (try (first | with_reducible rfl | omega | assumption | (refine (decide_eq_true ?_).symm; assumption) | (refine (decide_eq_false ?_).symm; assumption) | (refine rowGet ?_; (first | omega | (simp only [std]; omega) | grind)) | (refine getC ?_ rfl; (first | omega | (simp only [std]; omega) | grind)) | (refine fill_step ?_ ?_; (first | omega | (simp only [std]; omega) | grind); (first | rfl | exact (Row.eq _).trans rfl)) | (refine fill_init ?_; (first | rfl | exact (Row.eq _).trans rfl)) | grind [snocI, snocS, rowSnoc]))
abbrev P_c_iFormNames  : Prop := CallOK Try.prog 213 [] [] [.arr true 1 (formNames.map strC)] (.sv (.one (.ref 0)))
theorem run_c_iFormNames : aexec Try.prog (Option.getD (Func.body Try.f213) Code.skip) (entry [] [] 2) [Orc.fin [0]] (finK Try.prog [ResultVar.tmp 0] [Ob.arr true 1 (List.map strC
 formNames)] (AV.sv (SV.one (AC.ref 0)))) = (ObsEq [Ob.arr true 1 [[cS (ByteArray.mk #[(113 : UInt8), (117 : UInt8), (111 : UInt8), (116 : UInt8), (101 : UInt8)])], [cS
 (ByteArray.mk #[(108 : UInt8), (97 : UInt8), (109 : UInt8), (98 : UInt8), (100 : UInt8), (97 : UInt8)])], [cS (ByteArray.mk #[(105 : UInt8), (102 : UInt8)])], [cS (ByteArray.mk
 #[(115 : UInt8), (101 : UInt8), (116 : UInt8), (33 : UInt8)])], [cS (ByteArray.mk #[(98 : UInt8), (101 : UInt8), (103 : UInt8), (105 : UInt8), (110 : UInt8)])], [cS (ByteArray.mk
 #[(114 : UInt8), (101 : UInt8), (115 : UInt8), (101 : UInt8), (116 : UInt8)])], [cS (ByteArray.mk #[(115 : UInt8), (104 : UInt8), (105 : UInt8), (102 : UInt8), (116 : UInt8)])],
 [cS (ByteArray.mk #[(100 : UInt8), (101 : UInt8), (102 : UInt8), (105 : UInt8), (110 : UInt8), (101 : UInt8)])], [cS (ByteArray.mk #[(100 : UInt8), (101 : UInt8), (102 : UInt8),
 (105 : UInt8), (110 : UInt8), (101 : UInt8), (45 : UInt8), (115 : UInt8), (121 : UInt8), (110 : UInt8), (116 : UInt8), (97 : UInt8), (120 : UInt8)])], [cS (ByteArray.mk #[(108 :
 UInt8), (101 : UInt8), (116 : UInt8), (45 : UInt8), (115 : UInt8), (121 : UInt8), (110 : UInt8), (116 : UInt8), (97 : UInt8), (120 : UInt8)])], [cS (ByteArray.mk #[(115 : UInt8),
 (121 : UInt8), (110 : UInt8), (116 : UInt8), (97 : UInt8), (120 : UInt8), (45 : UInt8), (114 : UInt8), (117 : UInt8), (108 : UInt8), (101 : UInt8), (115 : UInt8)])], [cS
 (ByteArray.mk #[(108 : UInt8), (111 : UInt8), (99 : UInt8), (97 : UInt8), (108 : UInt8)])]]] [Ob.arr true 1 (List.map strC formNames)] ∧ AV.sv (SV.one (AC.ref 0)) = AV.sv (SV.one
 (AC.ref 0))) := by kernel_rfl
theorem c_iFormNames   : P_c_iFormNames := by
  refine CallOK.ofRun wide (run_c_iFormNames) Try.call213 Try.func213 rfl rfl rfl ?_
  with_reducible repeat' (first | apply And.intro | exact flatI | exact flatS | exact rowLens | (intro; skip) | apply obsN | apply obsC | apply obA | apply obM | apply obB | apply svA | apply tupA | apply lcA | apply lcS | apply svC | apply liC | apply lbC | apply lsC | apply vIc | apply vBc | apply vSc | apply vLc | apply mapC)
  all_goals (try simp only [std] at *)
  all_goals (try (first | with_reducible rfl | omega | assumption | (refine (decide_eq_true ?_).symm; assumption) | (refine (decide_eq_false ?_).symm; assumption) | (refine rowGet ?_; (first | omega | (simp only [std]; omega) | grind)) | (refine getC ?_ rfl; (first | omega | (simp only [std]; omega) | grind)) | (refine fill_step ?_ ?_; (first | omega | (simp only [std]; omega) | grind); (first | rfl | exact (Row.eq _).trans rfl)) | (refine fill_init ?_; (first | rfl | exact (Row.eq _).trans rfl)) | grind [snocI, snocS, rowSnoc]))
  all_goals rfl
abbrev P_c_iPrimitiveNames  : Prop := CallOK Try.prog 214 [] [] [.arr true 1 (primNames.map strC)] (.sv (.one (.ref 0)))
theorem run_c_iPrimitiveNames : aexec Try.prog (Option.getD (Func.body Try.f214) Code.skip) (entry [] [] 2) [Orc.fin [0]] (finK Try.prog [ResultVar.tmp 0] [Ob.arr true 1 (List.map
 strC primNames)] (AV.sv (SV.one (AC.ref 0)))) = (ObsEq [Ob.arr true 1 [[cS (ByteArray.mk #[(43 : UInt8)])], [cS (ByteArray.mk #[(45 : UInt8)])], [cS (ByteArray.mk #[(42 :
 UInt8)])], [cS (ByteArray.mk #[(61 : UInt8)])], [cS (ByteArray.mk #[(60 : UInt8)])], [cS (ByteArray.mk #[(99 : UInt8), (111 : UInt8), (110 : UInt8), (115 : UInt8)])], [cS
 (ByteArray.mk #[(99 : UInt8), (97 : UInt8), (114 : UInt8)])], [cS (ByteArray.mk #[(99 : UInt8), (100 : UInt8), (114 : UInt8)])], [cS (ByteArray.mk #[(110 : UInt8), (117 : UInt8),
 (108 : UInt8), (108 : UInt8), (63 : UInt8)])], [cS (ByteArray.mk #[(112 : UInt8), (97 : UInt8), (105 : UInt8), (114 : UInt8), (63 : UInt8)])], [cS (ByteArray.mk #[(110 : UInt8),
 (117 : UInt8), (109 : UInt8), (98 : UInt8), (101 : UInt8), (114 : UInt8), (63 : UInt8)])], [cS (ByteArray.mk #[(101 : UInt8), (113 : UInt8), (63 : UInt8)])], [cS (ByteArray.mk
 #[(110 : UInt8), (111 : UInt8), (116 : UInt8)])], [cS (ByteArray.mk #[(100 : UInt8), (105 : UInt8), (115 : UInt8), (112 : UInt8), (108 : UInt8), (97 : UInt8), (121 : UInt8)])]]]
 [Ob.arr true 1 (List.map strC primNames)] ∧ AV.sv (SV.one (AC.ref 0)) = AV.sv (SV.one (AC.ref 0))) := by kernel_rfl
theorem c_iPrimitiveNames   : P_c_iPrimitiveNames := by
  refine CallOK.ofRun wide (run_c_iPrimitiveNames) Try.call214 Try.func214 rfl rfl rfl ?_
  with_reducible repeat' (first | apply And.intro | exact flatI | exact flatS | exact rowLens | (intro; skip) | apply obsN | apply obsC | apply obA | apply obM | apply obB | apply svA | apply tupA | apply lcA | apply lcS | apply svC | apply liC | apply lbC | apply lsC | apply vIc | apply vBc | apply vSc | apply vLc | apply mapC)
  all_goals (try simp only [std] at *)
  all_goals (try (first | with_reducible rfl | omega | assumption | (refine (decide_eq_true ?_).symm; assumption) | (refine (decide_eq_false ?_).symm; assumption) | (refine rowGet ?_; (first | omega | (simp only [std]; omega) | grind)) | (refine getC ?_ rfl; (first | omega | (simp only [std]; omega) | grind)) | (refine fill_step ?_ ?_; (first | omega | (simp only [std]; omega) | grind); (first | rfl | exact (Row.eq _).trans rfl)) | (refine fill_init ?_; (first | rfl | exact (Row.eq _).trans rfl)) | grind [snocI, snocS, rowSnoc]))
  all_goals rfl
abbrev P_c_iCoreBindings  : Prop := CallOK Try.prog 106 [] [] [.arr true 4 (coreBindings.map bindingC)] (.sv (.one (.ref 0)))
def Tc_iCoreBindingsLa (x0 : SV) (x1 : Ob) : St := St.mk (regsOf 35 [(1, AV.sv (SV.one (AC.ref 0))), (6, AV.sv (SV.one (AC.ref 1))), (7, AV.sv (li 12)), (8, AV.sv x0)]) [x1, Ob.arr
 true 1 (List.map strC formNames)] 0 
def Lc_iCoreBindingsLa (k : Nat) : St := Tc_iCoreBindingsLa (li (↑k : Int)) (Ob.arr true 4 (List.map bindingC (bindTo k))) 
def Ic_iCoreBindingsLa : Nat → St → Prop := Head Lc_iCoreBindingsLa (fun k => k ≤ 12) fun k => 12 - k 
def W0c_iCoreBindingsLa (x0 : Ob) : St := St.mk (regsOf 35 [(1, AV.sv (SV.one (AC.ref 0)))]) [x0] 0 
def Yc_iCoreBindingsLa : List (Prop × AEx × St) := [(True, AEx.exit 0, W0c_iCoreBindingsLa (Ob.arr true 4 (List.map bindingC (primTo 0))))]
theorem Hc_iCoreBindingsLa  {k : Nat} {m : Nat} (h : (fun k => k ≤ 12) k) (hm : (fun k => 12 - k) k = m) : Ic_iCoreBindingsLa  m (Lc_iCoreBindingsLa  k) := hm ▸ Head.mk h
theorem Ec_iCoreBindingsLa  {k : Nat} {x0 : SV} {x1 : Ob} (h0 : x0 = (li (↑k : Int))) (h1 : x1 = (Ob.arr true 4 (List.map bindingC (bindTo k)))) : Tc_iCoreBindingsLa  x0 x1 =
 Lc_iCoreBindingsLa  k := by
  rw [h0, h1]
  rfl
theorem EW0c_iCoreBindingsLa  {x0 y0 : Ob} (h0 : x0 = y0) : W0c_iCoreBindingsLa  x0 = W0c_iCoreBindingsLa  y0 := by rw [h0]
theorem run_c_iCoreBindingsLa (k : Nat) : aexec Try.prog (loopAt Try.f106 0) (Lc_iCoreBindingsLa k) [Orc.br [Orc.cells (strC (List.getD formNames (Int.toNat (↑k : Int)) default)),
 Orc.ghost (Ghost.sel [3, 1] [1, 6, 7, 8]), Orc.goto (12 - (k + 1)) (Lc_iCoreBindingsLa (k + 1))] [Orc.ghost (Ghost.sel [0] [1]), Orc.out 0]] (loopK Ic_iCoreBindingsLa
 Yc_iCoreBindingsLa (12 - k)) = ((decide ((↑k : Int) < 12) = true → (0 ≤ (↑k : Int) ∧ Int.toNat (↑k : Int) < 12) ∧ (List.map strC formNames)[Int.toNat (↑k : Int)]? = some [cS
 (List.getD formNames (Int.toNat (↑k : Int)) default)] ∧ (List.length (List.map bindingC (bindTo k)) + 1) * 56 ≤ 140737488355328 ∧ rng IntKind.i64 ((↑k : Int) + 1) ∧ 12 - (k + 1) <
 12 - k ∧ Tc_iCoreBindingsLa (li ((↑k : Int) + 1)) (Ob.arr true 4 (List.map bindingC (bindTo k) ++ [[cS (List.getD formNames (Int.toNat (↑k : Int)) default), Cell.list [], cI 1, cI
 (↑k : Int)]])) = Lc_iCoreBindingsLa (k + 1) ∧ Ic_iCoreBindingsLa (12 - (k + 1)) (Lc_iCoreBindingsLa (k + 1))) ∧ (decide ((↑k : Int) < 12) = false → True ∧ W0c_iCoreBindingsLa
 (Ob.arr true 4 (List.map bindingC (bindTo k))) = W0c_iCoreBindingsLa (Ob.arr true 4 (List.map bindingC (primTo 0))))) := by kernel_rfl
def Tc_iCoreBindingsLb (x0 : SV) (x1 : Ob) : St := St.mk (regsOf 35 [(1, AV.sv (SV.one (AC.ref 0))), (20, AV.sv (SV.one (AC.ref 1))), (21, AV.sv (li 14)), (22, AV.sv x0)]) [x1,
 Ob.arr true 1 (List.map strC primNames)] 0 
def Lc_iCoreBindingsLb (k : Nat) : St := Tc_iCoreBindingsLb (li (↑k : Int)) (Ob.arr true 4 (List.map bindingC (primTo k))) 
def Ic_iCoreBindingsLb : Nat → St → Prop := Head Lc_iCoreBindingsLb (fun k => k ≤ 14) fun k => 14 - k 
def W0c_iCoreBindingsLb (x0 : Ob) : St := St.mk (regsOf 35 [(1, AV.sv (SV.one (AC.ref 0)))]) [x0] 0 
def Yc_iCoreBindingsLb : List (Prop × AEx × St) := [(True, AEx.exit 2, W0c_iCoreBindingsLb (Ob.arr true 4 (List.map bindingC coreBindings)))]
theorem Hc_iCoreBindingsLb  {k : Nat} {m : Nat} (h : (fun k => k ≤ 14) k) (hm : (fun k => 14 - k) k = m) : Ic_iCoreBindingsLb  m (Lc_iCoreBindingsLb  k) := hm ▸ Head.mk h
theorem Ec_iCoreBindingsLb  {k : Nat} {x0 : SV} {x1 : Ob} (h0 : x0 = (li (↑k : Int))) (h1 : x1 = (Ob.arr true 4 (List.map bindingC (primTo k)))) : Tc_iCoreBindingsLb  x0 x1 =
 Lc_iCoreBindingsLb  k := by
  rw [h0, h1]
  rfl
theorem EW0c_iCoreBindingsLb  {x0 y0 : Ob} (h0 : x0 = y0) : W0c_iCoreBindingsLb  x0 = W0c_iCoreBindingsLb  y0 := by rw [h0]
theorem run_c_iCoreBindingsLb (k : Nat) : aexec Try.prog (loopAt Try.f106 1) (Lc_iCoreBindingsLb k) [Orc.br [Orc.cells (strC (List.getD primNames (Int.toNat (↑k : Int)) default)),
 Orc.ghost (Ghost.sel [3, 1] [1, 20, 21, 22]), Orc.goto (14 - (k + 1)) (Lc_iCoreBindingsLb (k + 1))] [Orc.ghost (Ghost.sel [0] [1]), Orc.out 0]] (loopK Ic_iCoreBindingsLb
 Yc_iCoreBindingsLb (14 - k)) = ((decide ((↑k : Int) < 14) = true → (0 ≤ (↑k : Int) ∧ Int.toNat (↑k : Int) < 14) ∧ (List.map strC primNames)[Int.toNat (↑k : Int)]? = some [cS
 (List.getD primNames (Int.toNat (↑k : Int)) default)] ∧ (List.length (List.map bindingC (primTo k)) + 1) * 56 ≤ 140737488355328 ∧ rng IntKind.i64 ((↑k : Int) + 1) ∧ 14 - (k + 1) <
 14 - k ∧ Tc_iCoreBindingsLb (li ((↑k : Int) + 1)) (Ob.arr true 4 (List.map bindingC (primTo k) ++ [[cS (List.getD primNames (Int.toNat (↑k : Int)) default), Cell.list [], cI 2, cI
 (↑k : Int)]])) = Lc_iCoreBindingsLb (k + 1) ∧ Ic_iCoreBindingsLb (14 - (k + 1)) (Lc_iCoreBindingsLb (k + 1))) ∧ (decide ((↑k : Int) < 14) = false → True ∧ W0c_iCoreBindingsLb
 (Ob.arr true 4 (List.map bindingC (primTo k))) = W0c_iCoreBindingsLb (Ob.arr true 4 (List.map bindingC coreBindings)))) := by kernel_rfl
theorem Sc_iCoreBindingsLb   : LoopSem Try.prog (loopAt Try.f106 1) Ic_iCoreBindingsLb Yc_iCoreBindingsLb := by
  refine LoopSem.ofHead wide fun k h => ⟨_, _, run_c_iCoreBindingsLb k, ?_⟩
  have e : primNames.length = 14 := rfl
  have g := @primTo_len k
  have g2 := @primTo_next k
  with_reducible repeat' (first | apply And.intro | exact flatI | exact flatS | exact rowLens | (intro; skip) | apply obsN | apply obsC | apply obA | apply obM | apply obB | apply svA | apply tupA | apply lcA | apply lcS | apply svC | apply liC | apply lbC | apply lsC | apply vIc | apply vBc | apply vSc | apply vLc | apply mapC | apply Hc_iCoreBindingsLa | apply Ec_iCoreBindingsLa | apply Hc_iCoreBindingsLb | apply Ec_iCoreBindingsLb | apply EW0c_iCoreBindingsLa | apply EW0c_iCoreBindingsLb | apply c_iFormNames | apply c_iPrimitiveNames)
  all_goals (try simp only [std] at *)
  all_goals (try (first | with_reducible rfl | omega | assumption | (refine (decide_eq_true ?_).symm; assumption) | (refine (decide_eq_false ?_).symm; assumption) | (refine rowGet ?_; (first | omega | (simp only [std]; omega) | grind)) | (refine getC ?_ rfl; (first | omega | (simp only [std]; omega) | grind)) | (refine fill_step ?_ ?_; (first | omega | (simp only [std]; omega) | grind); (first | rfl | exact (Row.eq _).trans rfl)) | (refine fill_init ?_; (first | rfl | exact (Row.eq _).trans rfl)) | grind [bindTo_all, snocI, snocS, rowSnoc]))
  all_goals (rw [primTo_next (by omega)]; exact rowSnoc (C := bindingC) (primTo k) ⟨primNames.getD k default, [], 2, k⟩)
theorem Sc_iCoreBindingsLa   : LoopSem Try.prog (loopAt Try.f106 0) Ic_iCoreBindingsLa Yc_iCoreBindingsLa := by
  refine LoopSem.ofHead wide fun k h => ⟨_, _, run_c_iCoreBindingsLa k, ?_⟩
  have e : formNames.length = 12 := rfl
  have g := @bindTo_len k
  have g2 := @formTo_step k
  with_reducible repeat' (first | apply And.intro | exact flatI | exact flatS | exact rowLens | (intro; skip) | apply obsN | apply obsC | apply obA | apply obM | apply obB | apply svA | apply tupA | apply lcA | apply lcS | apply svC | apply liC | apply lbC | apply lsC | apply vIc | apply vBc | apply vSc | apply vLc | apply mapC | apply Hc_iCoreBindingsLa | apply Ec_iCoreBindingsLa | apply Hc_iCoreBindingsLb | apply Ec_iCoreBindingsLb | apply Sc_iCoreBindingsLb | apply EW0c_iCoreBindingsLa | apply EW0c_iCoreBindingsLb | apply c_iFormNames | apply c_iPrimitiveNames)
  all_goals (try simp only [std] at *)
  all_goals (try (first | with_reducible rfl | omega | assumption | (refine (decide_eq_true ?_).symm; assumption) | (refine (decide_eq_false ?_).symm; assumption) | (refine rowGet ?_; (first | omega | (simp only [std]; omega) | grind)) | (refine getC ?_ rfl; (first | omega | (simp only [std]; omega) | grind)) | (refine fill_step ?_ ?_; (first | omega | (simp only [std]; omega) | grind); (first | rfl | exact (Row.eq _).trans rfl)) | (refine fill_init ?_; (first | rfl | exact (Row.eq _).trans rfl)) | grind [bindTo_nil, primTo_zero, snocI, snocS, rowSnoc]))
  all_goals (rw [formTo_step (by omega)]; exact rowSnoc (C := bindingC) (bindTo k) ⟨formNames.getD k default, [], 1, k⟩)
theorem run_c_iCoreBindings : aexec Try.prog (Option.getD (Func.body Try.f106) Code.skip) (entry [] [] 35) [Orc.call [] [Ob.arr true 1 (List.map strC formNames)] (AV.sv (SV.one
 (AC.ref 0))), Orc.ghost (Ghost.nilreg 1 true 4), Orc.ghost (Ghost.sel [1, 0] [1, 6, 7, 8]), Orc.loop 12 (Lc_iCoreBindingsLa 0) Ic_iCoreBindingsLa [(True, AEx.exit 0,
 W0c_iCoreBindingsLa (Ob.arr true 4 (List.map bindingC (primTo 0))), [Orc.call [] [Ob.arr true 1 (List.map strC primNames)] (AV.sv (SV.one (AC.ref 0))), Orc.ghost (Ghost.sel [0, 1]
 [1, 20, 21, 22]), Orc.loop 14 (Lc_iCoreBindingsLb 0) Ic_iCoreBindingsLb [(True, AEx.exit 2, W0c_iCoreBindingsLb (Ob.arr true 4 (List.map bindingC coreBindings)), [Orc.fin
 [0]])]])]] (finK Try.prog [ResultVar.tmp 0] [Ob.arr true 4 (List.map bindingC coreBindings)] (AV.sv (SV.one (AC.ref 0)))) = (P_c_iFormNames ∧ (12 ≤ 9223372036854775807 →
 Tc_iCoreBindingsLa (li 0) (Ob.arr true 4 []) = Lc_iCoreBindingsLa 0 ∧ Ic_iCoreBindingsLa 12 (Lc_iCoreBindingsLa 0) ∧ LoopSem Try.prog (loopAt Try.f106 0) Ic_iCoreBindingsLa
 Yc_iCoreBindingsLa ∧ (True → P_c_iPrimitiveNames ∧ (14 ≤ 9223372036854775807 → Tc_iCoreBindingsLb (li 0) (Ob.arr true 4 (List.map bindingC (primTo 0))) = Lc_iCoreBindingsLb 0 ∧
 Ic_iCoreBindingsLb 14 (Lc_iCoreBindingsLb 0) ∧ LoopSem Try.prog (loopAt Try.f106 1) Ic_iCoreBindingsLb Yc_iCoreBindingsLb ∧ (True → ObsEq [Ob.arr true 4 (List.map bindingC
 coreBindings)] [Ob.arr true 4 (List.map bindingC coreBindings)] ∧ AV.sv (SV.one (AC.ref 0)) = AV.sv (SV.one (AC.ref 0))) ∧ True)) ∧ True)) := by kernel_rfl
theorem c_iCoreBindings   : P_c_iCoreBindings := by
  refine CallOK.ofRun wide (run_c_iCoreBindings) Try.call106 Try.func106 rfl rfl rfl ?_
  with_reducible repeat' (first | apply And.intro | exact flatI | exact flatS | exact rowLens | (intro; skip) | apply obsN | apply obsC | apply obA | apply obM | apply obB | apply svA | apply tupA | apply lcA | apply lcS | apply svC | apply liC | apply lbC | apply lsC | apply vIc | apply vBc | apply vSc | apply vLc | apply mapC | apply Hc_iCoreBindingsLa | apply Ec_iCoreBindingsLa | apply Sc_iCoreBindingsLa | apply Hc_iCoreBindingsLb | apply Ec_iCoreBindingsLb | apply Sc_iCoreBindingsLb | apply EW0c_iCoreBindingsLa | apply EW0c_iCoreBindingsLb | apply c_iFormNames | apply c_iPrimitiveNames)
  all_goals (try simp only [std] at *)
  all_goals (try (first | with_reducible rfl | omega | assumption | (refine (decide_eq_true ?_).symm; assumption) | (refine (decide_eq_false ?_).symm; assumption) | (refine rowGet ?_; (first | omega | (simp only [std]; omega) | grind)) | (refine getC ?_ rfl; (first | omega | (simp only [std]; omega) | grind)) | (refine fill_step ?_ ?_; (first | omega | (simp only [std]; omega) | grind); (first | rfl | exact (Row.eq _).trans rfl)) | (refine fill_init ?_; (first | rfl | exact (Row.eq _).trans rfl)) | grind [snocI, snocS, rowSnoc]))
  all_goals rfl
abbrev P_c_iNewExpander  : Prop := CallOK Try.prog 20 [] [] [.arr true 4 (coreBindings.map bindingC)] (.sv (.agg [.ref 0, .val (.lit (.slice none 0 0)), vI 0, vI 0, vI 200]))
theorem run_c_iNewExpander : aexec Try.prog (Option.getD (Func.body Try.f20) Code.skip) (entry [] [] 3) [Orc.call [] [Ob.arr true 4 (List.map bindingC coreBindings)] (AV.sv (SV.one
 (AC.ref 0))), Orc.fin [1]] (finK Try.prog [ResultVar.cell 0 25] [Ob.arr true 4 (List.map bindingC coreBindings)] (AV.sv (SV.agg [AC.ref 0, AC.val (Cell.lit (Value.slice none 0
 0)), vI 0, vI 0, vI 200]))) = (P_c_iCoreBindings ∧ ObsEq [Ob.arr true 4 (List.map bindingC coreBindings)] [Ob.arr true 4 (List.map bindingC coreBindings)] ∧ AV.sv (SV.agg [AC.ref
 0, AC.val (Cell.lit (Value.slice none 0 0)), vI 0, vI 0, vI 200]) = AV.sv (SV.agg [AC.ref 0, AC.val (Cell.lit (Value.slice none 0 0)), vI 0, vI 0, vI 200])) := by kernel_rfl
theorem c_iNewExpander   : P_c_iNewExpander := by
  refine CallOK.ofRun wide (run_c_iNewExpander) Try.call20 Try.func20 rfl rfl rfl ?_
  with_reducible repeat' (first | apply And.intro | exact flatI | exact flatS | exact rowLens | (intro; skip) | apply obsN | apply obsC | apply obA | apply obM | apply obB | apply svA | apply tupA | apply lcA | apply lcS | apply svC | apply liC | apply lbC | apply lsC | apply vIc | apply vBc | apply vSc | apply vLc | apply mapC | apply c_iCoreBindings)
  all_goals (try simp only [std] at *)
  all_goals (try (first | with_reducible rfl | omega | assumption | (refine (decide_eq_true ?_).symm; assumption) | (refine (decide_eq_false ?_).symm; assumption) | (refine rowGet ?_; (first | omega | (simp only [std]; omega) | grind)) | (refine getC ?_ rfl; (first | omega | (simp only [std]; omega) | grind)) | (refine fill_step ?_ ?_; (first | omega | (simp only [std]; omega) | grind); (first | rfl | exact (Row.eq _).trans rfl)) | (refine fill_init ?_; (first | rfl | exact (Row.eq _).trans rfl)) | grind [snocI, snocS, rowSnoc]))
end Go.Proofs.Ytehpjofddjmbpaa
end
section
namespace Go.Proofs.Ytehpjofddjmbpaa
open Go Go.Proofs.Ytehpjofddjmbpaa.Ab
set_option linter.unusedVariables false
set_option linter.unusedSimpArgs false
set_option maxHeartbeats 4000000
abbrev P_c_markIntS (L : List Int) (n : Int) : Prop := CallOK Try.prog 31 [.arr true 1 (L.map intC)] [.one (.ref 0), li n] [.arr true 1 ((seqM mkI cOne L n).map intC)] (.sv (li (n + L.length)))
def Tc_markIntSLa (L : List Int) (n : Int) (x0 : SV) (x1 : SV) (x2 : Ob) : St := St.mk (regsOf 19 [(0, AV.sv (SV.one (AC.ref 0))), (1, AV.sv x1), (5, AV.sv x0)]) [x2] 1 
def Lc_markIntSLa (L : List Int) (n : Int) (k : Nat) : St := Tc_markIntSLa L n (li (↑k : Int)) (li (n + (↑k : Int))) (Ob.arr true 1 (List.map intC (mkTo mkI cOne L n k))) 
def Ic_markIntSLa (L : List Int) (n : Int) : Nat → St → Prop := Head (Lc_markIntSLa L n) (fun k => k ≤ List.length L ∧ List.length L ≤ 9223372036854775807) fun k => List.length L -
 k 
def W0c_markIntSLa (L : List Int) (n : Int) (x0 : SV) (x1 : Ob) : St := St.mk (regsOf 19 [(1, AV.sv x0)]) [x1] 1 
def Yc_markIntSLa (L : List Int) (n : Int) : List (Prop × AEx × St) := [(True, AEx.exit 0, W0c_markIntSLa L n (li (n + (↑(List.length L) : Int))) (Ob.arr true 1 (List.map intC
 (seqM mkI cOne L n))))]
theorem Hc_markIntSLa {L : List Int} {n : Int} {k : Nat} {m : Nat} (h : (fun k => k ≤ List.length L ∧ List.length L ≤ 9223372036854775807) k) (hm : (fun k => List.length L - k) k =
 m) : Ic_markIntSLa L n m (Lc_markIntSLa L n k) := hm ▸ Head.mk h
theorem Ec_markIntSLa {L : List Int} {n : Int} {k : Nat} {x0 : SV} {x1 : SV} {x2 : Ob} (h0 : x0 = (li (↑k : Int))) (h1 : x1 = (li (n + (↑k : Int)))) (h2 : x2 = (Ob.arr true 1
 (List.map intC (mkTo mkI cOne L n k)))) : Tc_markIntSLa L n x0 x1 x2 = Lc_markIntSLa L n k := by
  rw [h0, h1, h2]
  rfl
theorem EW0c_markIntSLa {L : List Int} {n : Int} {x0 y0 : SV} {x1 y1 : Ob} (h0 : x0 = y0) (h1 : x1 = y1) : W0c_markIntSLa L n x0 x1 = W0c_markIntSLa L n y0 y1 := by rw [h0, h1]
theorem run_c_markIntSLa (L : List Int) (n : Int) (k : Nat) : aexec Try.prog (loopAt Try.f31 0) (Lc_markIntSLa L n k) [Orc.br [Orc.cells (intC (List.getD L (Int.toNat (↑k : Int))
 default)), Orc.ghost (Ghost.sel [0] [0, 1, 5]), Orc.goto (List.length L - (k + 1)) (Lc_markIntSLa L n (k + 1))] [Orc.ghost (Ghost.sel [0] [1]), Orc.out 0]] (loopK (Ic_markIntSLa L
 n) (Yc_markIntSLa L n) (List.length L - k)) = (List.length (List.map intC (mkTo mkI cOne L n k)) ≤ 9223372036854775807 → (decide ((↑k : Int) < (↑(List.length (List.map intC (mkTo
 mkI cOne L n k))) : Int)) = true → (0 ≤ (↑k : Int) ∧ Int.toNat (↑k : Int) < List.length (List.map intC (mkTo mkI cOne L n k))) ∧ (List.map intC (mkTo mkI cOne L n k))[Int.toNat
 (↑k : Int)]? = some [cI (List.getD L (Int.toNat (↑k : Int)) 0)] ∧ rng IntKind.i64 (n + (↑k : Int) + 1) ∧ rng IntKind.i64 ((↑k : Int) + 1) ∧ List.length L - (k + 1) < List.length L
 - k ∧ Tc_markIntSLa L n (li ((↑k : Int) + 1)) (li (n + (↑k : Int) + 1)) (Ob.arr true 1 (List.set (List.map intC (mkTo mkI cOne L n k)) (Int.toNat (↑k : Int)) [cI (n + (↑k :
 Int))])) = Lc_markIntSLa L n (k + 1) ∧ Ic_markIntSLa L n (List.length L - (k + 1)) (Lc_markIntSLa L n (k + 1))) ∧ (decide ((↑k : Int) < (↑(List.length (List.map intC (mkTo mkI
 cOne L n k))) : Int)) = false → True ∧ W0c_markIntSLa L n (li (n + (↑k : Int))) (Ob.arr true 1 (List.map intC (mkTo mkI cOne L n k))) = W0c_markIntSLa L n (li (n + (↑(List.length
 L) : Int))) (Ob.arr true 1 (List.map intC (seqM mkI cOne L n))))) := by kernel_rfl
theorem Sc_markIntSLa (L : List Int) (n : Int) (h0 : 0 ≤ n) (h : n + (↑(List.length L) : Int) ≤ 2147483647)  : LoopSem Try.prog (loopAt Try.f31 0) (Ic_markIntSLa L n)
 (Yc_markIntSLa L n) := by
  refine LoopSem.ofHead wide fun k h => ⟨_, _, run_c_markIntSLa L n k, ?_⟩
  with_reducible repeat' (first | apply And.intro | exact flatI | exact flatS | exact rowLens | (intro; skip) | apply obsN | apply obsC | apply obA | apply obM | apply obB | apply svA | apply tupA | apply lcA | apply lcS | apply svC | apply liC | apply lbC | apply lsC | apply vIc | apply vBc | apply vSc | apply vLc | apply mapC | apply Hc_markIntSLa | apply Ec_markIntSLa | apply EW0c_markIntSLa)
  all_goals (try simp only [std, stdM] at *)
  all_goals (try (first | with_reducible rfl | omega | assumption | (refine (decide_eq_true ?_).symm; assumption) | (refine (decide_eq_false ?_).symm; assumption) | (refine rowGet ?_; (first | omega | (simp only [std, stdM]; omega) | grind)) | (refine getC ?_ rfl; (first | omega | (simp only [std, stdM]; omega) | grind)) | (refine fill_step ?_ ?_; (first | omega | (simp only [std, stdM]; omega) | grind); (first | rfl | exact (Row.eq _).trans rfl)) | (refine fill_init ?_; (first | rfl | exact (Row.eq _).trans rfl)) | (refine set_row ?_; (simp only [List.length_map, List.length_set, mkTo_len]; omega)) | (refine mkToRow ?_; (first | omega | (simp only [std, stdM]; omega) | grind)) | (refine mkTo_row ?_ rfl; (first | omega | (simp only [std, stdM]; omega) | grind)) | (refine mkTo_step ?_ ?_; (first | omega | (simp only [std, stdM]; omega) | grind); (first | grind [mkTo_all, mkI, cOne_take, intC, mkTo_get, snocI, snocS, rowSnoc])) | grind [mkTo_all, mkI, cOne_take, intC, mkTo_get, snocI, snocS, rowSnoc]))
theorem run_c_markIntS (L : List Int) (n : Int) : aexec Try.prog (Option.getD (Func.body Try.f31) Code.skip) (entry [Ob.arr true 1 (List.map intC L)] [SV.one (AC.ref 0), li n] 19)
 [Orc.ghost (Ghost.sel [0] [0, 1, 5]), Orc.loop (List.length L - 0) (Lc_markIntSLa L n 0) (Ic_markIntSLa L n) [(True, AEx.exit 0, W0c_markIntSLa L n (li (n + (↑(List.length L) :
 Int))) (Ob.arr true 1 (List.map intC (seqM mkI cOne L n))), [Orc.fin []])]] (finK Try.prog [ResultVar.tmp 4] [Ob.arr true 1 (List.map intC (seqM mkI cOne L n))] (AV.sv (li (n +
 (↑(List.length L) : Int))))) = (Tc_markIntSLa L n (li 0) (li n) (Ob.arr true 1 (List.map intC L)) = Lc_markIntSLa L n 0 ∧ Ic_markIntSLa L n (List.length L - 0) (Lc_markIntSLa L n
 0) ∧ LoopSem Try.prog (loopAt Try.f31 0) (Ic_markIntSLa L n) (Yc_markIntSLa L n) ∧ (True → ObsEq [Ob.arr true 1 (List.map intC (seqM mkI cOne L n))] [Ob.arr true 1 (List.map intC
 (seqM mkI cOne L n))] ∧ AV.sv (li (n + (↑(List.length L) : Int))) = AV.sv (li (n + (↑(List.length L) : Int)))) ∧ True) := by kernel_rfl
theorem c_markIntS (L : List Int) (n : Int) (h0 : 0 ≤ n) (h : n + L.length ≤ 2147483647)  : P_c_markIntS L n := by
  refine CallOK.ofRun wide (run_c_markIntS L n) Try.call31 Try.func31 rfl rfl rfl ?_
  with_reducible repeat' (first | apply And.intro | exact flatI | exact flatS | exact rowLens | (intro; skip) | apply obsN | apply obsC | apply obA | apply obM | apply obB | apply svA | apply tupA | apply lcA | apply lcS | apply svC | apply liC | apply lbC | apply lsC | apply vIc | apply vBc | apply vSc | apply vLc | apply mapC | apply Hc_markIntSLa | apply Ec_markIntSLa | apply Sc_markIntSLa | apply EW0c_markIntSLa)
  all_goals (try simp only [std, stdM] at *)
  all_goals (try (first | with_reducible rfl | omega | assumption | (refine (decide_eq_true ?_).symm; assumption) | (refine (decide_eq_false ?_).symm; assumption) | (refine rowGet ?_; (first | omega | (simp only [std, stdM]; omega) | grind)) | (refine getC ?_ rfl; (first | omega | (simp only [std, stdM]; omega) | grind)) | (refine fill_step ?_ ?_; (first | omega | (simp only [std, stdM]; omega) | grind); (first | rfl | exact (Row.eq _).trans rfl)) | (refine fill_init ?_; (first | rfl | exact (Row.eq _).trans rfl)) | (refine set_row ?_; (simp only [List.length_map, List.length_set, mkTo_len]; omega)) | (refine mkToRow ?_; (first | omega | (simp only [std, stdM]; omega) | grind)) | (refine mkTo_row ?_ rfl; (first | omega | (simp only [std, stdM]; omega) | grind)) | (refine mkTo_step ?_ ?_; (first | omega | (simp only [std, stdM]; omega) | grind); (first | grind [mkTo_zero, snocI, snocS, rowSnoc])) | grind [mkTo_zero, snocI, snocS, rowSnoc]))
abbrev P_c_markText (n : Int) : Prop := CallOK Try.prog 114 [] [li n] [] (.sv (ls (mText n)))
def Tc_markTextLa (n : Int) (x0 : SV) (x1 : SV) : St := St.mk (regsOf 20 [(0, AV.sv x0), (3, AV.sv x1)]) [] 0 
def Lc_markTextLa (n : Int) (k : Int × List UInt8) : St := Tc_markTextLa n (li (Prod.fst k)) (ls (mkS (Prod.snd k))) 
def Ic_markTextLa (n : Int) : Nat → St → Prop := Head (Lc_markTextLa n) (fun k => 0 ≤ Prod.fst k ∧ Prod.fst k ≤ n ∧ digs (Int.toNat (Prod.fst k)) ++ Prod.snd k = digs (Int.toNat
 n)) fun k => Int.toNat (Prod.fst k) 
def W0c_markTextLa (n : Int) (x0 : SV) : St := St.mk (regsOf 20 [(3, AV.sv x0)]) [] 0 
def Yc_markTextLa (n : Int) : List (Prop × AEx × St) := [(True, AEx.exit 0, W0c_markTextLa n (ls (mkS (digs (Int.toNat n)))))]
theorem Hc_markTextLa {n : Int} {k : Int × List UInt8} {m : Nat} (h : (fun k => 0 ≤ Prod.fst k ∧ Prod.fst k ≤ n ∧ digs (Int.toNat (Prod.fst k)) ++ Prod.snd k = digs (Int.toNat n))
 k) (hm : (fun k => Int.toNat (Prod.fst k)) k = m) : Ic_markTextLa n m (Lc_markTextLa n k) := hm ▸ Head.mk h
theorem Ec_markTextLa {n : Int} {k : Int × List UInt8} {x0 : SV} {x1 : SV} (h0 : x0 = (li (Prod.fst k))) (h1 : x1 = (ls (mkS (Prod.snd k)))) : Tc_markTextLa n x0 x1 = Lc_markTextLa
 n k := by
  rw [h0, h1]
  rfl
theorem EW0c_markTextLa {n : Int} {x0 y0 : SV} (h0 : x0 = y0) : W0c_markTextLa n x0 = W0c_markTextLa n y0 := by rw [h0]
theorem run_c_markTextLa (n : Int) (k : Int × List UInt8) : aexec Try.prog (loopAt Try.f114 0) (Lc_markTextLa n k) [Orc.br [Orc.bytes [UInt8.ofNat (Int.toNat (48 + Int.tmod
 (Prod.fst k) 10))], Orc.ghost (Ghost.sel [] [0, 3]), Orc.goto (Int.toNat (Int.tdiv (Prod.fst k) 10)) (Lc_markTextLa n (Int.tdiv (Prod.fst k) 10, [UInt8.ofNat (Int.toNat (48 +
 Int.tmod (Prod.fst k) 10))] ++ Prod.snd k))] [Orc.ghost (Ghost.sel [] [3]), Orc.out 0]] (loopK (Ic_markTextLa n) (Yc_markTextLa n) (Int.toNat (Prod.fst k))) = ((decide (0 <
 Prod.fst k) = true → (10 : Int) ≠ 0 ∧ rng IntKind.i64 (48 + Int.tmod (Prod.fst k) 10) ∧ rng IntKind.u8 (48 + Int.tmod (Prod.fst k) 10) ∧ [[Cell.lit (Value.int IntKind.u8 (48 +
 Int.tmod (Prod.fst k) 10))]] = [[Cell.lit (Value.int IntKind.u8 (↑(UInt8.toNat (UInt8.ofNat (Int.toNat (48 + Int.tmod (Prod.fst k) 10)))) : Int))]] ∧ 1 + List.length (Prod.snd k)
 ≤ 9223372036854775807 ∧ (10 : Int) ≠ 0 ∧ rng IntKind.i64 (Int.tdiv (Prod.fst k) 10) ∧ Int.toNat (Int.tdiv (Prod.fst k) 10) < Int.toNat (Prod.fst k) ∧ Tc_markTextLa n (li (Int.tdiv
 (Prod.fst k) 10)) (ls (ByteArray.mk (List.toArray ([UInt8.ofNat (Int.toNat (48 + Int.tmod (Prod.fst k) 10))] ++ Prod.snd k)))) = Lc_markTextLa n (Int.tdiv (Prod.fst k) 10,
 [UInt8.ofNat (Int.toNat (48 + Int.tmod (Prod.fst k) 10))] ++ Prod.snd k) ∧ Ic_markTextLa n (Int.toNat (Int.tdiv (Prod.fst k) 10)) (Lc_markTextLa n (Int.tdiv (Prod.fst k) 10,
 [UInt8.ofNat (Int.toNat (48 + Int.tmod (Prod.fst k) 10))] ++ Prod.snd k))) ∧ (decide (0 < Prod.fst k) = false → True ∧ W0c_markTextLa n (ls (mkS (Prod.snd k))) = W0c_markTextLa n
 (ls (mkS (digs (Int.toNat n)))))) := by kernel_rfl
theorem Sc_markTextLa (n : Int) (h0 : 0 ≤ n) (h : n ≤ 2147483647)  : LoopSem Try.prog (loopAt Try.f114 0) (Ic_markTextLa n) (Yc_markTextLa n) := by
  refine LoopSem.ofHead wide fun k h => ⟨_, _, run_c_markTextLa n k, ?_⟩
  obtain ⟨i, l⟩ := k
  simp only at *
  obtain ⟨g1, g2, g3⟩ := h
  have g4 : l.length ≤ 2147483647 := by
    have := congrArg List.length g3
    have := digs_len n.toNat
    simp only [List.length_append] at *
    omega
  simp only [Int.tmod_eq_emod_of_nonneg g1, Int.tdiv_eq_ediv_of_nonneg g1]
  refine ⟨fun g => ?_, fun g => ?_⟩
  · have g : 0 < i := of_decide_eq_true g
    refine ⟨by decide, by rw [rng64]; omega, by rw [rngu8]; omega, by rw [u8_int (by omega) (by omega)], by omega, by decide, by rw [rng64]; omega, by omega, ?_, ?_⟩
    · apply Ec_markTextLa <;> rfl
    · apply Hc_markTextLa
      · exact ⟨by show 0 ≤ i / 10; omega, by show i / 10 ≤ n; omega, by show digs (i / 10).toNat ++ ([_] ++ l) = _; rw [← g3, digs_int g, List.append_assoc]⟩
      · rfl
  · have g : ¬ 0 < i := of_decide_eq_false g
    refine ⟨trivial, ?_⟩
    have e : i = 0 := by omega
    subst e
    rw [show digs (0 : Int).toNat = [] from digs_zero] at g3
    rw [← g3]; rfl
theorem run_c_markText (n : Int) : aexec Try.prog (Option.getD (Func.body Try.f114) Code.skip) (entry [] [li n] 20) [Orc.br [Orc.fin []] [Orc.ghost (Ghost.sel [] [0, 3]), Orc.loop
 (Int.toNat n) (Lc_markTextLa n (n, [])) (Ic_markTextLa n) [(True, AEx.exit 0, W0c_markTextLa n (ls (mkS (digs (Int.toNat n)))), [Orc.fin []])]]] (finK Try.prog [ResultVar.tmp 2]
 [] (AV.sv (ls (mText n)))) = ((decide (n ≤ 0) = true → ObsEq [] [] ∧ AV.sv (ls (ByteArray.mk #[(109 : UInt8), (48 : UInt8)])) = AV.sv (ls (mText n))) ∧ (decide (n ≤ 0) = false →
 Tc_markTextLa n (li n) (ls (ByteArray.mk #[])) = Lc_markTextLa n (n, []) ∧ Ic_markTextLa n (Int.toNat n) (Lc_markTextLa n (n, [])) ∧ LoopSem Try.prog (loopAt Try.f114 0)
 (Ic_markTextLa n) (Yc_markTextLa n) ∧ (True → 1 + List.length (digs (Int.toNat n)) ≤ 9223372036854775807 ∧ ObsEq [] [] ∧ AV.sv (ls (ByteArray.mk (List.toArray ([(109 : UInt8)] ++
 digs (Int.toNat n))))) = AV.sv (ls (mText n))) ∧ True)) := by kernel_rfl
theorem c_markText (n : Int) (h0 : 0 ≤ n) (h : n ≤ 2147483647)  : P_c_markText n := by
  refine CallOK.ofRun wide (run_c_markText n) Try.call114 Try.func114 rfl rfl rfl ?_
  have g := digs_len n.toNat
  simp only [mText]
  with_reducible repeat' (first | apply And.intro | exact flatI | exact flatS | exact rowLens | (intro; skip) | apply obsN | apply obsC | apply obA | apply obM | apply obB | apply svA | apply tupA | apply lcA | apply lcS | apply svC | apply liC | apply lbC | apply lsC | apply vIc | apply vBc | apply vSc | apply vLc | apply mapC | apply Hc_markTextLa | apply Ec_markTextLa | apply Sc_markTextLa | apply EW0c_markTextLa)
  all_goals (try simp only [std, stdM] at *)
  all_goals (try (first | with_reducible rfl | omega | assumption | (refine (decide_eq_true ?_).symm; assumption) | (refine (decide_eq_false ?_).symm; assumption) | (refine rowGet ?_; (first | omega | (simp only [std, stdM]; omega) | grind)) | (refine getC ?_ rfl; (first | omega | (simp only [std, stdM]; omega) | grind)) | (refine fill_step ?_ ?_; (first | omega | (simp only [std, stdM]; omega) | grind); (first | rfl | exact (Row.eq _).trans rfl)) | (refine fill_init ?_; (first | rfl | exact (Row.eq _).trans rfl)) | (refine set_row ?_; (simp only [List.length_map, List.length_set, mkTo_len]; omega)) | (refine mkToRow ?_; (first | omega | (simp only [std, stdM]; omega) | grind)) | (refine mkTo_row ?_ rfl; (first | omega | (simp only [std, stdM]; omega) | grind)) | (refine mkTo_step ?_ ?_; (first | omega | (simp only [std, stdM]; omega) | grind); (first | grind [mkS, snocI, snocS, rowSnoc])) | grind [mkS, snocI, snocS, rowSnoc]))
abbrev P_c_markSyntaxS (x : Syntax) (n : Int) : Prop := CallOK Try.prog 89 [.arr true 5 (x.items.map syntaxC)] [.one (.ref 0), li n] [.arr true 5 ((seqM mkY cY x.items n).map syntaxC)] (.sv (li (n + sumBy cY x.items)))
def Tc_markSyntaxS_sLa (x : Syntax) (n : Int) (x0 : SV) (x1 : SV) (x2 : Ob) : St := St.mk (regsOf 49 [(0, AV.sv (SV.one (AC.ref 0))), (1, AV.sv x1), (5, AV.sv x0)]) [x2] 1 
def Lc_markSyntaxS_sLa (x : Syntax) (n : Int) (k : Nat) : St := Tc_markSyntaxS_sLa x n (li (↑k : Int)) (li (n + (↑(sumBy cY (List.take k (Syntax.items x))) : Int))) (Ob.arr true 5
 (List.map syntaxC (mkTo mkY cY (Syntax.items x) n k))) 
def Ic_markSyntaxS_sLa (x : Syntax) (n : Int) : Nat → St → Prop := Head (Lc_markSyntaxS_sLa x n) (fun k => k ≤ List.length (Syntax.items x) ∧ List.length (Syntax.items x) ≤
 9223372036854775807) fun k => List.length (Syntax.items x) - k 
def W0c_markSyntaxS_sLa (x : Syntax) (n : Int) (x0 : SV) (x1 : Ob) : St := St.mk (regsOf 49 [(1, AV.sv x0)]) [x1] 1 
def Yc_markSyntaxS_sLa (x : Syntax) (n : Int) : List (Prop × AEx × St) := [(True, AEx.exit 0, W0c_markSyntaxS_sLa x n (li (n + (↑(sumBy cY (Syntax.items x)) : Int))) (Ob.arr true 5
 (List.map syntaxC (seqM mkY cY (Syntax.items x) n))))]
theorem Hc_markSyntaxS_sLa {x : Syntax} {n : Int} {k : Nat} {m : Nat} (h : (fun k => k ≤ List.length (Syntax.items x) ∧ List.length (Syntax.items x) ≤ 9223372036854775807) k) (hm :
 (fun k => List.length (Syntax.items x) - k) k = m) : Ic_markSyntaxS_sLa x n m (Lc_markSyntaxS_sLa x n k) := hm ▸ Head.mk h
theorem Ec_markSyntaxS_sLa {x : Syntax} {n : Int} {k : Nat} {x0 : SV} {x1 : SV} {x2 : Ob} (h0 : x0 = (li (↑k : Int))) (h1 : x1 = (li (n + (↑(sumBy cY (List.take k (Syntax.items
 x))) : Int)))) (h2 : x2 = (Ob.arr true 5 (List.map syntaxC (mkTo mkY cY (Syntax.items x) n k)))) : Tc_markSyntaxS_sLa x n x0 x1 x2 = Lc_markSyntaxS_sLa x n k := by
  rw [h0, h1, h2]
  rfl
theorem EW0c_markSyntaxS_sLa {x : Syntax} {n : Int} {x0 y0 : SV} {x1 y1 : Ob} (h0 : x0 = y0) (h1 : x1 = y1) : W0c_markSyntaxS_sLa x n x0 x1 = W0c_markSyntaxS_sLa x n y0 y1 := by rw
 [h0, h1]
abbrev a1__markSyntaxS_sLa (x : Syntax) (k : Nat) := (List.getD (Syntax.items x) (Int.toNat (↑k : Int)) default)
abbrev a3__markSyntaxS_sLa (x : Syntax) (k : Nat) := (↑(sumBy cY (List.take k (Syntax.items x))) : Int)
abbrev a9__markSyntaxS_sLa (x : Syntax) (k : Nat) := (Syntax.scopes (a1__markSyntaxS_sLa x k))
abbrev a11__markSyntaxS_sLa (x : Syntax) (k : Nat) := (Syntax.items (a1__markSyntaxS_sLa x k))
abbrev a2__markSyntaxS_sLa (x : Syntax) (n : Int) (k : Nat) := [cI (n + (a3__markSyntaxS_sLa x k)), cI (n + (a3__markSyntaxS_sLa x k) + 1), cS (mText (n + (a3__markSyntaxS_sLa x k)
 + 1 + 1)), Cell.list (List.map intC (a9__markSyntaxS_sLa x k)), Cell.list (List.map syntaxC (a11__markSyntaxS_sLa x k))]
abbrev a15__markSyntaxS_sLa (x : Syntax) (n : Int) (k : Nat) := (List.map intC (seqM mkI cOne (a9__markSyntaxS_sLa x k) (n + (a3__markSyntaxS_sLa x k) + 1 + 1 + 1)))
abbrev a4__markSyntaxS_sLa (x : Syntax) (n : Int) (k : Nat) := [cI (n + (a3__markSyntaxS_sLa x k)), cI (n + (a3__markSyntaxS_sLa x k) + 1), cS (mText (n + (a3__markSyntaxS_sLa x k)
 + 1 + 1)), Cell.list (a15__markSyntaxS_sLa x n k), Cell.list (List.map syntaxC (a11__markSyntaxS_sLa x k))]
abbrev a5__markSyntaxS_sLa (x : Syntax) (n : Int) (k : Nat) := [cI (n + (a3__markSyntaxS_sLa x k)), cI (n + (a3__markSyntaxS_sLa x k) + 1), cS (Syntax.text (a1__markSyntaxS_sLa x
 k)), Cell.list (List.map intC (a9__markSyntaxS_sLa x k)), Cell.list (List.map syntaxC (a11__markSyntaxS_sLa x k))]
abbrev a6__markSyntaxS_sLa (x : Syntax) (n : Int) (k : Nat) := [cI (n + (a3__markSyntaxS_sLa x k)), cI (Syntax.number (a1__markSyntaxS_sLa x k)), cS (Syntax.text
 (a1__markSyntaxS_sLa x k)), Cell.list (List.map intC (a9__markSyntaxS_sLa x k)), Cell.list (List.map syntaxC (a11__markSyntaxS_sLa x k))]
abbrev a7__markSyntaxS_sLa (x : Syntax) (n : Int) (k : Nat) := (List.map syntaxC (mkTo mkY cY (Syntax.items x) n k))
abbrev a8__markSyntaxS_sLa (x : Syntax) (n : Int) (k : Nat) := (List.set (a7__markSyntaxS_sLa x n k) (Int.toNat (↑k : Int)) (a2__markSyntaxS_sLa x n k))
abbrev a10__markSyntaxS_sLa (x : Syntax) (n : Int) (k : Nat) := (n + (a3__markSyntaxS_sLa x k) + 1 + 1 + 1 + (↑(List.length (a9__markSyntaxS_sLa x k)) : Int))
abbrev a12__markSyntaxS_sLa (x : Syntax) (n : Int) (k : Nat) := (li (n + (a3__markSyntaxS_sLa x k) + 1 + 1 + 1 + (↑(List.length (a9__markSyntaxS_sLa x k)) : Int) + (↑(sumBy cY
 (a11__markSyntaxS_sLa x k)) : Int)))
abbrev a13__markSyntaxS_sLa (x : Syntax) (n : Int) (k : Nat) := (List.set (a7__markSyntaxS_sLa x n k) (Int.toNat (↑k : Int)) (a5__markSyntaxS_sLa x n k))
abbrev a14__markSyntaxS_sLa (x : Syntax) (n : Int) (k : Nat) := (List.set (a8__markSyntaxS_sLa x n k) (Int.toNat (↑k : Int)) (a4__markSyntaxS_sLa x n k))
theorem run_c_markSyntaxS_sLa (x : Syntax) (n : Int) (k : Nat) : aexec Try.prog (loopAt Try.f89 0) (Lc_markSyntaxS_sLa x n k) [Orc.br [Orc.cells (syntaxF (a1__markSyntaxS_sLa x
 k)), Orc.take (a6__markSyntaxS_sLa x n k) (a13__markSyntaxS_sLa x n k) 0, Orc.call [Mode.rd] [] (AV.sv (ls (mText (n + (a3__markSyntaxS_sLa x k) + 1 + 1)))), Orc.take
 (a5__markSyntaxS_sLa x n k) (a8__markSyntaxS_sLa x n k) 0, Orc.sub, Orc.subcall (a2__markSyntaxS_sLa x n k) (List.map intC (a9__markSyntaxS_sLa x k)) 1, Orc.call [Mode.own true 1,
 Mode.rd] [Ob.arr true 1 (a15__markSyntaxS_sLa x n k)] (AV.sv (li (a10__markSyntaxS_sLa x n k))), Orc.sub, Orc.subcall (a4__markSyntaxS_sLa x n k) (List.map syntaxC
 (a11__markSyntaxS_sLa x k)) 5, Orc.call [Mode.own true 5, Mode.rd] [Ob.arr true 5 (List.map syntaxC (seqM mkY cY (a11__markSyntaxS_sLa x k) (a10__markSyntaxS_sLa x n k)))] (AV.sv
 (a12__markSyntaxS_sLa x n k)), Orc.ghost (Ghost.sel [0] [0, 1, 5]), Orc.goto (List.length (Syntax.items x) - (k + 1)) (Lc_markSyntaxS_sLa x n (k + 1))] [Orc.ghost (Ghost.sel [0]
 [1]), Orc.out 0]] (loopK (Ic_markSyntaxS_sLa x n) (Yc_markSyntaxS_sLa x n) (List.length (Syntax.items x) - k)) = (List.length (a7__markSyntaxS_sLa x n k) ≤ 9223372036854775807 →
 (decide ((↑k : Int) < (↑(List.length (a7__markSyntaxS_sLa x n k)) : Int)) = true → (0 ≤ (↑k : Int) ∧ Int.toNat (↑k : Int) < List.length (a7__markSyntaxS_sLa x n k)) ∧
 (a7__markSyntaxS_sLa x n k)[Int.toNat (↑k : Int)]? = some (syntaxF (a1__markSyntaxS_sLa x k)) ∧ rng IntKind.i64 (n + (a3__markSyntaxS_sLa x k) + 1) ∧ (0 ≤ (↑k : Int) ∧ Int.toNat
 (↑k : Int) < List.length (List.set (a7__markSyntaxS_sLa x n k) (Int.toNat (↑k : Int)) (a6__markSyntaxS_sLa x n k))) ∧ (List.set (a7__markSyntaxS_sLa x n k) (Int.toNat (↑k : Int))
 (a6__markSyntaxS_sLa x n k))[Int.toNat (↑k : Int)]? = some (a6__markSyntaxS_sLa x n k) ∧ List.set (List.set (a7__markSyntaxS_sLa x n k) (Int.toNat (↑k : Int)) (a6__markSyntaxS_sLa
 x n k)) (Int.toNat (↑k : Int)) (a5__markSyntaxS_sLa x n k) = List.set (a7__markSyntaxS_sLa x n k) (Int.toNat (↑k : Int)) (a5__markSyntaxS_sLa x n k) ∧ rng IntKind.i64 (n +
 (a3__markSyntaxS_sLa x k) + 1 + 1) ∧ P_c_markText (n + (a3__markSyntaxS_sLa x k) + 1 + 1) ∧ (0 ≤ (↑k : Int) ∧ Int.toNat (↑k : Int) < List.length (a13__markSyntaxS_sLa x n k)) ∧
 (a13__markSyntaxS_sLa x n k)[Int.toNat (↑k : Int)]? = some (a5__markSyntaxS_sLa x n k) ∧ List.set (a13__markSyntaxS_sLa x n k) (Int.toNat (↑k : Int)) (a2__markSyntaxS_sLa x n k) =
 List.set (a7__markSyntaxS_sLa x n k) (Int.toNat (↑k : Int)) (a2__markSyntaxS_sLa x n k) ∧ rng IntKind.i64 (n + (a3__markSyntaxS_sLa x k) + 1 + 1 + 1) ∧ (0 ≤ (↑k : Int) ∧ Int.toNat
 (↑k : Int) < List.length (a8__markSyntaxS_sLa x n k)) ∧ Int.toNat (↑k : Int) < List.length (a8__markSyntaxS_sLa x n k) ∧ (a8__markSyntaxS_sLa x n k)[Int.toNat (↑k : Int)]? = some
 (a2__markSyntaxS_sLa x n k) ∧ some (Cell.list (List.map intC (a9__markSyntaxS_sLa x k))) = some (Cell.list (List.map intC (a9__markSyntaxS_sLa x k))) ∧ (∀ (x_1 : List Cell), x_1 ∈
 List.map intC (a9__markSyntaxS_sLa x k) → List.length x_1 = 1) ∧ P_c_markIntS (a9__markSyntaxS_sLa x k) (n + (a3__markSyntaxS_sLa x k) + 1 + 1 + 1) ∧ (0 ≤ (↑k : Int) ∧ Int.toNat
 (↑k : Int) < List.length (a14__markSyntaxS_sLa x n k)) ∧ Int.toNat (↑k : Int) < List.length (a14__markSyntaxS_sLa x n k) ∧ (a14__markSyntaxS_sLa x n k)[Int.toNat (↑k : Int)]? =
 some (a4__markSyntaxS_sLa x n k) ∧ some (Cell.list (List.map syntaxC (a11__markSyntaxS_sLa x k))) = some (Cell.list (List.map syntaxC (a11__markSyntaxS_sLa x k))) ∧ (∀ (x_1 : List
 Cell), x_1 ∈ List.map syntaxC (a11__markSyntaxS_sLa x k) → List.length x_1 = 5) ∧ CallOK Try.prog 89 [Ob.arr true 5 (List.map syntaxC (a11__markSyntaxS_sLa x k))] [SV.one (AC.ref
 0), li (a10__markSyntaxS_sLa x n k)] [Ob.arr true 5 (List.map syntaxC (seqM mkY cY (a11__markSyntaxS_sLa x k) (a10__markSyntaxS_sLa x n k)))] (AV.sv (a12__markSyntaxS_sLa x n k))
 ∧ rng IntKind.i64 ((↑k : Int) + 1) ∧ List.length (Syntax.items x) - (k + 1) < List.length (Syntax.items x) - k ∧ Tc_markSyntaxS_sLa x n (li ((↑k : Int) + 1)) (a12__markSyntaxS_sLa
 x n k) (Ob.arr true 5 (List.set (a14__markSyntaxS_sLa x n k) (Int.toNat (↑k : Int)) [cI (n + (a3__markSyntaxS_sLa x k)), cI (n + (a3__markSyntaxS_sLa x k) + 1), cS (mText (n +
 (a3__markSyntaxS_sLa x k) + 1 + 1)), Cell.list (a15__markSyntaxS_sLa x n k), Cell.list (List.map syntaxC (seqM mkY cY (a11__markSyntaxS_sLa x k) (a10__markSyntaxS_sLa x n k)))]))
 = Lc_markSyntaxS_sLa x n (k + 1) ∧ Ic_markSyntaxS_sLa x n (List.length (Syntax.items x) - (k + 1)) (Lc_markSyntaxS_sLa x n (k + 1))) ∧ (decide ((↑k : Int) < (↑(List.length
 (a7__markSyntaxS_sLa x n k)) : Int)) = false → True ∧ W0c_markSyntaxS_sLa x n (li (n + (a3__markSyntaxS_sLa x k))) (Ob.arr true 5 (a7__markSyntaxS_sLa x n k)) =
 W0c_markSyntaxS_sLa x n (li (n + (↑(sumBy cY (Syntax.items x)) : Int))) (Ob.arr true 5 (List.map syntaxC (seqM mkY cY (Syntax.items x) n))))) := by kernel_rfl
theorem Sc_markSyntaxS_sLa (x : Syntax) (n : Int) (h0 : 0 ≤ n) (h : n + (↑(sumBy cY (Syntax.items x)) : Int) ≤ 2147483647) (ih : ∀ (z : Syntax), z ∈ Syntax.items x → ∀ (n : Int), 0
 ≤ n → n + (↑(sumBy cY (Syntax.items z)) : Int) ≤ 2147483647 → P_c_markSyntaxS z n)  : LoopSem Try.prog (loopAt Try.f89 0) (Ic_markSyntaxS_sLa x n) (Yc_markSyntaxS_sLa x n) := by
  refine LoopSem.ofHead wide fun k h => ⟨_, _, run_c_markSyntaxS_sLa x n k, ?_⟩
  try delta a1__markSyntaxS_sLa a3__markSyntaxS_sLa a9__markSyntaxS_sLa a11__markSyntaxS_sLa a2__markSyntaxS_sLa a15__markSyntaxS_sLa a4__markSyntaxS_sLa a5__markSyntaxS_sLa a6__markSyntaxS_sLa a7__markSyntaxS_sLa a8__markSyntaxS_sLa a10__markSyntaxS_sLa a12__markSyntaxS_sLa a13__markSyntaxS_sLa a14__markSyntaxS_sLa
  have g0 := sumBy_takeLe cY x.items (k + 1)
  with_reducible repeat' (first | apply And.intro | exact flatI | exact flatS | exact rowLens | exact ih | (intro; skip) | apply obsN | apply obsC | apply obA | apply obM | apply obB | apply svA | apply tupA | apply lcA | apply lcS | apply svC | apply liC | apply lbC | apply lsC | apply vIc | apply vBc | apply vSc | apply vLc | apply mapC | apply Hc_markSyntaxS_sLa | apply Ec_markSyntaxS_sLa | apply EW0c_markSyntaxS_sLa | apply c_markText | apply c_markIntS | apply ih)
  all_goals (try simp only [std, stdM] at *)
  all_goals (try (first | with_reducible rfl | omega | assumption | (refine (decide_eq_true ?_).symm; assumption) | (refine (decide_eq_false ?_).symm; assumption) | (refine rowGet ?_; (first | omega | (simp only [std, stdM]; omega) | grind)) | (refine getC ?_ rfl; (first | omega | (simp only [std, stdM]; omega) | grind)) | (refine fill_step ?_ ?_; (first | omega | (simp only [std, stdM]; omega) | grind); (first | rfl | exact (Row.eq _).trans rfl)) | (refine fill_init ?_; (first | rfl | exact (Row.eq _).trans rfl)) | (refine set_row ?_; (simp only [List.length_map, List.length_set, mkTo_len]; omega)) | (refine mkToRow ?_; (first | omega | (simp only [std, stdM]; omega) | grind)) | (refine mkTo_row ?_ rfl; (first | omega | (simp only [std, stdM]; omega) | grind)) | (refine mkTo_step ?_ ?_; (first | omega | (simp only [std, stdM]; omega) | grind); (first | exact mkY_C _ _ | grind [sumBy_step, getD_mem', cY_eq, mkY_C, mkTo_all, snocI, snocS, rowSnoc])) | grind [sumBy_step, getD_mem', cY_eq, mkY_C, mkTo_all, snocI, snocS, rowSnoc]))
theorem run_c_markSyntaxS_s (x : Syntax) (n : Int) : aexec Try.prog (Option.getD (Func.body Try.f89) Code.skip) (entry [Ob.arr true 5 (List.map syntaxC (Syntax.items x))] [SV.one
 (AC.ref 0), li n] 49) [Orc.ghost (Ghost.sel [0] [0, 1, 5]), Orc.loop (List.length (Syntax.items x) - 0) (Lc_markSyntaxS_sLa x n 0) (Ic_markSyntaxS_sLa x n) [(True, AEx.exit 0,
 W0c_markSyntaxS_sLa x n (li (n + (↑(sumBy cY (Syntax.items x)) : Int))) (Ob.arr true 5 (List.map syntaxC (seqM mkY cY (Syntax.items x) n))), [Orc.fin []])]] (finK Try.prog
 [ResultVar.tmp 4] [Ob.arr true 5 (List.map syntaxC (seqM mkY cY (Syntax.items x) n))] (AV.sv (li (n + (↑(sumBy cY (Syntax.items x)) : Int))))) = (Tc_markSyntaxS_sLa x n (li 0) (li
 n) (Ob.arr true 5 (List.map syntaxC (Syntax.items x))) = Lc_markSyntaxS_sLa x n 0 ∧ Ic_markSyntaxS_sLa x n (List.length (Syntax.items x) - 0) (Lc_markSyntaxS_sLa x n 0) ∧ LoopSem
 Try.prog (loopAt Try.f89 0) (Ic_markSyntaxS_sLa x n) (Yc_markSyntaxS_sLa x n) ∧ (True → ObsEq [Ob.arr true 5 (List.map syntaxC (seqM mkY cY (Syntax.items x) n))] [Ob.arr true 5
 (List.map syntaxC (seqM mkY cY (Syntax.items x) n))] ∧ AV.sv (li (n + (↑(sumBy cY (Syntax.items x)) : Int))) = AV.sv (li (n + (↑(sumBy cY (Syntax.items x)) : Int)))) ∧ True) := by
 kernel_rfl
theorem c_markSyntaxS_s (x : Syntax) (n : Int) (h0 : 0 ≤ n) (h : n + sumBy cY x.items ≤ 2147483647) (ih : ∀ z ∈ x.items, ∀ (n : Int) (h0 : 0 ≤ n) (h : n + sumBy cY z.items ≤
 2147483647), P_c_markSyntaxS z n)  : P_c_markSyntaxS x n := by
  refine CallOK.ofRun wide (run_c_markSyntaxS_s x n) Try.call89 Try.func89 rfl rfl rfl ?_
  have gl := cY_len x.items
  with_reducible repeat' (first | apply And.intro | exact flatI | exact flatS | exact rowLens | exact ih | (intro; skip) | apply obsN | apply obsC | apply obA | apply obM | apply obB | apply svA | apply tupA | apply lcA | apply lcS | apply svC | apply liC | apply lbC | apply lsC | apply vIc | apply vBc | apply vSc | apply vLc | apply mapC | apply Hc_markSyntaxS_sLa | apply Ec_markSyntaxS_sLa | apply Sc_markSyntaxS_sLa | apply EW0c_markSyntaxS_sLa | apply c_markText | apply c_markIntS)
  all_goals (try simp only [std, stdM] at *)
  all_goals (try (first | with_reducible rfl | omega | assumption | (refine (decide_eq_true ?_).symm; assumption) | (refine (decide_eq_false ?_).symm; assumption) | (refine rowGet ?_; (first | omega | (simp only [std, stdM]; omega) | grind)) | (refine getC ?_ rfl; (first | omega | (simp only [std, stdM]; omega) | grind)) | (refine fill_step ?_ ?_; (first | omega | (simp only [std, stdM]; omega) | grind); (first | rfl | exact (Row.eq _).trans rfl)) | (refine fill_init ?_; (first | rfl | exact (Row.eq _).trans rfl)) | (refine set_row ?_; (simp only [List.length_map, List.length_set, mkTo_len]; omega)) | (refine mkToRow ?_; (first | omega | (simp only [std, stdM]; omega) | grind)) | (refine mkTo_row ?_ rfl; (first | omega | (simp only [std, stdM]; omega) | grind)) | (refine mkTo_step ?_ ?_; (first | omega | (simp only [std, stdM]; omega) | grind); (first | grind [mkTo_all, snocI, snocS, rowSnoc])) | grind [mkTo_all, snocI, snocS, rowSnoc]))
theorem c_markSyntaxS (x : Syntax) : ∀ (n : Int) (h0 : 0 ≤ n) (h : n + sumBy cY x.items ≤ 2147483647), P_c_markSyntaxS x n := Syntax.ind (P := fun x => ∀ (n : Int) (h0 : 0 ≤ n) (h : n + sumBy cY x.items ≤ 2147483647), P_c_markSyntaxS x n) (fun x ih n h0 h => c_markSyntaxS_s x n h0 h ih) x
theorem c_markSyntaxSL (L : List Syntax) (n : Int) (h0 : 0 ≤ n) (h : n + sumBy cY L ≤ 2147483647) : P_c_markSyntaxS { (default : Syntax) with items := L } n := c_markSyntaxS { (default : Syntax) with items := L } n h0 h
abbrev P_c_markBindingS (L : List Binding) (n : Int) : Prop := CallOK Try.prog 109 [.arr true 4 (L.map bindingC)] [.one (.ref 0), li n] [.arr true 4 ((seqM mkB cB L n).map bindingC)] (.sv (li (n + sumBy cB L)))
def Tc_markBindingSLa (L : List Binding) (n : Int) (x0 : SV) (x1 : SV) (x2 : Ob) : St := St.mk (regsOf 42 [(0, AV.sv (SV.one (AC.ref 0))), (1, AV.sv x1), (5, AV.sv x0)]) [x2] 1 
def Lc_markBindingSLa (L : List Binding) (n : Int) (k : Nat) : St := Tc_markBindingSLa L n (li (↑k : Int)) (li (n + (↑(sumBy cB (List.take k L)) : Int))) (Ob.arr true 4 (List.map
 bindingC (mkTo mkB cB L n k))) 
def Ic_markBindingSLa (L : List Binding) (n : Int) : Nat → St → Prop := Head (Lc_markBindingSLa L n) (fun k => k ≤ List.length L ∧ List.length L ≤ 9223372036854775807) fun k =>
 List.length L - k 
def W0c_markBindingSLa (L : List Binding) (n : Int) (x0 : SV) (x1 : Ob) : St := St.mk (regsOf 42 [(1, AV.sv x0)]) [x1] 1 
def Yc_markBindingSLa (L : List Binding) (n : Int) : List (Prop × AEx × St) := [(True, AEx.exit 0, W0c_markBindingSLa L n (li (n + (↑(sumBy cB L) : Int))) (Ob.arr true 4 (List.map
 bindingC (seqM mkB cB L n))))]
theorem Hc_markBindingSLa {L : List Binding} {n : Int} {k : Nat} {m : Nat} (h : (fun k => k ≤ List.length L ∧ List.length L ≤ 9223372036854775807) k) (hm : (fun k => List.length L
 - k) k = m) : Ic_markBindingSLa L n m (Lc_markBindingSLa L n k) := hm ▸ Head.mk h
theorem Ec_markBindingSLa {L : List Binding} {n : Int} {k : Nat} {x0 : SV} {x1 : SV} {x2 : Ob} (h0 : x0 = (li (↑k : Int))) (h1 : x1 = (li (n + (↑(sumBy cB (List.take k L)) :
 Int)))) (h2 : x2 = (Ob.arr true 4 (List.map bindingC (mkTo mkB cB L n k)))) : Tc_markBindingSLa L n x0 x1 x2 = Lc_markBindingSLa L n k := by
  rw [h0, h1, h2]
  rfl
theorem EW0c_markBindingSLa {L : List Binding} {n : Int} {x0 y0 : SV} {x1 y1 : Ob} (h0 : x0 = y0) (h1 : x1 = y1) : W0c_markBindingSLa L n x0 x1 = W0c_markBindingSLa L n y0 y1 := by
 rw [h0, h1]
abbrev a5__markBindingSLa (L : List Binding) (k : Nat) := (List.getD L (Int.toNat (↑k : Int)) default)
abbrev a6__markBindingSLa (L : List Binding) (k : Nat) := (Binding.scopes (a5__markBindingSLa L k))
abbrev a7__markBindingSLa (L : List Binding) (n : Int) (k : Nat) := [cS (mText (n + (↑(sumBy cB (List.take k L)) : Int))), Cell.list (List.map intC (a6__markBindingSLa L k)), cI
 (Binding.kind (a5__markBindingSLa L k)), cI (Binding.number (a5__markBindingSLa L k))]
abbrev a1__markBindingSLa (L : List Binding) (n : Int) (k : Nat) := (List.set (List.map bindingC (mkTo mkB cB L n k)) (Int.toNat (↑k : Int)) (a7__markBindingSLa L n k))
abbrev a8__markBindingSLa (L : List Binding) (n : Int) (k : Nat) := (List.map intC (seqM mkI cOne (a6__markBindingSLa L k) (n + (↑(sumBy cB (List.take k L)) : Int) + 1)))
abbrev a2__markBindingSLa (L : List Binding) (n : Int) (k : Nat) := [cS (mText (n + (↑(sumBy cB (List.take k L)) : Int))), Cell.list (a8__markBindingSLa L n k), cI (n + (↑(sumBy cB
 (List.take k L)) : Int) + 1 + (↑(List.length (a6__markBindingSLa L k)) : Int)), cI (Binding.number (a5__markBindingSLa L k))]
abbrev a3__markBindingSLa (L : List Binding) (n : Int) (k : Nat) := [cS (mText (n + (↑(sumBy cB (List.take k L)) : Int))), Cell.list (a8__markBindingSLa L n k), cI (n + (↑(sumBy cB
 (List.take k L)) : Int) + 1 + (↑(List.length (a6__markBindingSLa L k)) : Int)), cI (n + (↑(sumBy cB (List.take k L)) : Int) + 1 + (↑(List.length (a6__markBindingSLa L k)) : Int) +
 1)]
abbrev a4__markBindingSLa (L : List Binding) (n : Int) (k : Nat) := [cS (mText (n + (↑(sumBy cB (List.take k L)) : Int))), Cell.list (a8__markBindingSLa L n k), cI (Binding.kind
 (a5__markBindingSLa L k)), cI (Binding.number (a5__markBindingSLa L k))]
theorem run_c_markBindingSLa (L : List Binding) (n : Int) (k : Nat) : aexec Try.prog (loopAt Try.f109 0) (Lc_markBindingSLa L n k) [Orc.br [Orc.call [Mode.rd] [] (AV.sv (ls (mText
 (n + (↑(sumBy cB (List.take k L)) : Int))))), Orc.cells (bindingF (a5__markBindingSLa L k)), Orc.sub, Orc.subcall (a7__markBindingSLa L n k) (List.map intC (a6__markBindingSLa L
 k)) 1, Orc.call [Mode.own true 1, Mode.rd] [Ob.arr true 1 (a8__markBindingSLa L n k)] (AV.sv (li (n + (↑(sumBy cB (List.take k L)) : Int) + 1 + (↑(List.length (a6__markBindingSLa
 L k)) : Int)))), Orc.take (a4__markBindingSLa L n k) (List.set (a1__markBindingSLa L n k) (Int.toNat (↑k : Int)) (a2__markBindingSLa L n k)) 0, Orc.take (a2__markBindingSLa L n k)
 (List.set (a1__markBindingSLa L n k) (Int.toNat (↑k : Int)) (a3__markBindingSLa L n k)) 0, Orc.ghost (Ghost.sel [0] [0, 1, 5]), Orc.goto (List.length L - (k + 1))
 (Lc_markBindingSLa L n (k + 1))] [Orc.ghost (Ghost.sel [0] [1]), Orc.out 0]] (loopK (Ic_markBindingSLa L n) (Yc_markBindingSLa L n) (List.length L - k)) = (List.length (List.map
 bindingC (mkTo mkB cB L n k)) ≤ 9223372036854775807 → (decide ((↑k : Int) < (↑(List.length (List.map bindingC (mkTo mkB cB L n k))) : Int)) = true → P_c_markText (n + (↑(sumBy cB
 (List.take k L)) : Int)) ∧ (0 ≤ (↑k : Int) ∧ Int.toNat (↑k : Int) < List.length (List.map bindingC (mkTo mkB cB L n k))) ∧ (List.map bindingC (mkTo mkB cB L n k))[Int.toNat (↑k :
 Int)]? = some (bindingF (a5__markBindingSLa L k)) ∧ rng IntKind.i64 (n + (↑(sumBy cB (List.take k L)) : Int) + 1) ∧ (0 ≤ (↑k : Int) ∧ Int.toNat (↑k : Int) < List.length
 (a1__markBindingSLa L n k)) ∧ Int.toNat (↑k : Int) < List.length (a1__markBindingSLa L n k) ∧ (a1__markBindingSLa L n k)[Int.toNat (↑k : Int)]? = some (a7__markBindingSLa L n k) ∧
 some (Cell.list (List.map intC (a6__markBindingSLa L k))) = some (Cell.list (List.map intC (a6__markBindingSLa L k))) ∧ (∀ (x : List Cell), x ∈ List.map intC (a6__markBindingSLa L
 k) → List.length x = 1) ∧ P_c_markIntS (a6__markBindingSLa L k) (n + (↑(sumBy cB (List.take k L)) : Int) + 1) ∧ (0 ≤ (↑k : Int) ∧ Int.toNat (↑k : Int) < List.length (List.set
 (a1__markBindingSLa L n k) (Int.toNat (↑k : Int)) (a4__markBindingSLa L n k))) ∧ (List.set (a1__markBindingSLa L n k) (Int.toNat (↑k : Int)) (a4__markBindingSLa L n k))[Int.toNat
 (↑k : Int)]? = some (a4__markBindingSLa L n k) ∧ List.set (List.set (a1__markBindingSLa L n k) (Int.toNat (↑k : Int)) (a4__markBindingSLa L n k)) (Int.toNat (↑k : Int))
 (a2__markBindingSLa L n k) = List.set (a1__markBindingSLa L n k) (Int.toNat (↑k : Int)) (a2__markBindingSLa L n k) ∧ rng IntKind.i64 (n + (↑(sumBy cB (List.take k L)) : Int) + 1 +
 (↑(List.length (a6__markBindingSLa L k)) : Int) + 1) ∧ (0 ≤ (↑k : Int) ∧ Int.toNat (↑k : Int) < List.length (List.set (a1__markBindingSLa L n k) (Int.toNat (↑k : Int))
 (a2__markBindingSLa L n k))) ∧ (List.set (a1__markBindingSLa L n k) (Int.toNat (↑k : Int)) (a2__markBindingSLa L n k))[Int.toNat (↑k : Int)]? = some (a2__markBindingSLa L n k) ∧
 List.set (List.set (a1__markBindingSLa L n k) (Int.toNat (↑k : Int)) (a2__markBindingSLa L n k)) (Int.toNat (↑k : Int)) (a3__markBindingSLa L n k) = List.set (a1__markBindingSLa L
 n k) (Int.toNat (↑k : Int)) (a3__markBindingSLa L n k) ∧ rng IntKind.i64 (n + (↑(sumBy cB (List.take k L)) : Int) + 1 + (↑(List.length (a6__markBindingSLa L k)) : Int) + 1 + 1) ∧
 rng IntKind.i64 ((↑k : Int) + 1) ∧ List.length L - (k + 1) < List.length L - k ∧ Tc_markBindingSLa L n (li ((↑k : Int) + 1)) (li (n + (↑(sumBy cB (List.take k L)) : Int) + 1 +
 (↑(List.length (a6__markBindingSLa L k)) : Int) + 1 + 1)) (Ob.arr true 4 (List.set (a1__markBindingSLa L n k) (Int.toNat (↑k : Int)) (a3__markBindingSLa L n k))) =
 Lc_markBindingSLa L n (k + 1) ∧ Ic_markBindingSLa L n (List.length L - (k + 1)) (Lc_markBindingSLa L n (k + 1))) ∧ (decide ((↑k : Int) < (↑(List.length (List.map bindingC (mkTo
 mkB cB L n k))) : Int)) = false → True ∧ W0c_markBindingSLa L n (li (n + (↑(sumBy cB (List.take k L)) : Int))) (Ob.arr true 4 (List.map bindingC (mkTo mkB cB L n k))) =
 W0c_markBindingSLa L n (li (n + (↑(sumBy cB L) : Int))) (Ob.arr true 4 (List.map bindingC (seqM mkB cB L n))))) := by kernel_rfl
theorem Sc_markBindingSLa (L : List Binding) (n : Int) (h0 : 0 ≤ n) (h : n + (↑(sumBy cB L) : Int) ≤ 2147483647)  : LoopSem Try.prog (loopAt Try.f109 0) (Ic_markBindingSLa L n)
 (Yc_markBindingSLa L n) := by
  refine LoopSem.ofHead wide fun k h => ⟨_, _, run_c_markBindingSLa L n k, ?_⟩
  try delta a5__markBindingSLa a6__markBindingSLa a7__markBindingSLa a1__markBindingSLa a8__markBindingSLa a2__markBindingSLa a3__markBindingSLa a4__markBindingSLa
  have g0 := sumBy_takeLe cB L (k + 1)
  with_reducible repeat' (first | apply And.intro | exact flatI | exact flatS | exact rowLens | (intro; skip) | apply obsN | apply obsC | apply obA | apply obM | apply obB | apply svA | apply tupA | apply lcA | apply lcS | apply svC | apply liC | apply lbC | apply lsC | apply vIc | apply vBc | apply vSc | apply vLc | apply mapC | apply Hc_markBindingSLa | apply Ec_markBindingSLa | apply EW0c_markBindingSLa | apply c_markText | apply c_markIntS)
  all_goals (try simp only [std, stdM] at *)
  all_goals (try (first | with_reducible rfl | omega | assumption | (refine (decide_eq_true ?_).symm; assumption) | (refine (decide_eq_false ?_).symm; assumption) | (refine rowGet ?_; (first | omega | (simp only [std, stdM]; omega) | grind)) | (refine getC ?_ rfl; (first | omega | (simp only [std, stdM]; omega) | grind)) | (refine fill_step ?_ ?_; (first | omega | (simp only [std, stdM]; omega) | grind); (first | rfl | exact (Row.eq _).trans rfl)) | (refine fill_init ?_; (first | rfl | exact (Row.eq _).trans rfl)) | (refine set_row ?_; (simp only [List.length_map, List.length_set, mkTo_len]; omega)) | (refine mkToRow ?_; (first | omega | (simp only [std, stdM]; omega) | grind)) | (refine mkTo_row ?_ rfl; (first | omega | (simp only [std, stdM]; omega) | grind)) | (refine mkTo_step ?_ ?_; (first | omega | (simp only [std, stdM]; omega) | grind); (first | exact mkB_C _ _ | grind [sumBy_step, getD_mem', cB_eq, mkB_C, mkTo_all, snocI, snocS, rowSnoc])) | grind [sumBy_step, getD_mem', cB_eq, mkB_C, mkTo_all, snocI, snocS, rowSnoc]))
theorem run_c_markBindingS (L : List Binding) (n : Int) : aexec Try.prog (Option.getD (Func.body Try.f109) Code.skip) (entry [Ob.arr true 4 (List.map bindingC L)] [SV.one (AC.ref
 0), li n] 42) [Orc.ghost (Ghost.sel [0] [0, 1, 5]), Orc.loop (List.length L - 0) (Lc_markBindingSLa L n 0) (Ic_markBindingSLa L n) [(True, AEx.exit 0, W0c_markBindingSLa L n (li
 (n + (↑(sumBy cB L) : Int))) (Ob.arr true 4 (List.map bindingC (seqM mkB cB L n))), [Orc.fin []])]] (finK Try.prog [ResultVar.tmp 4] [Ob.arr true 4 (List.map bindingC (seqM mkB cB
 L n))] (AV.sv (li (n + (↑(sumBy cB L) : Int))))) = (Tc_markBindingSLa L n (li 0) (li n) (Ob.arr true 4 (List.map bindingC L)) = Lc_markBindingSLa L n 0 ∧ Ic_markBindingSLa L n
 (List.length L - 0) (Lc_markBindingSLa L n 0) ∧ LoopSem Try.prog (loopAt Try.f109 0) (Ic_markBindingSLa L n) (Yc_markBindingSLa L n) ∧ (True → ObsEq [Ob.arr true 4 (List.map
 bindingC (seqM mkB cB L n))] [Ob.arr true 4 (List.map bindingC (seqM mkB cB L n))] ∧ AV.sv (li (n + (↑(sumBy cB L) : Int))) = AV.sv (li (n + (↑(sumBy cB L) : Int)))) ∧ True) := by
 kernel_rfl
theorem c_markBindingS (L : List Binding) (n : Int) (h0 : 0 ≤ n) (h : n + sumBy cB L ≤ 2147483647)  : P_c_markBindingS L n := by
  refine CallOK.ofRun wide (run_c_markBindingS L n) Try.call109 Try.func109 rfl rfl rfl ?_
  have gl := cB_len L
  with_reducible repeat' (first | apply And.intro | exact flatI | exact flatS | exact rowLens | (intro; skip) | apply obsN | apply obsC | apply obA | apply obM | apply obB | apply svA | apply tupA | apply lcA | apply lcS | apply svC | apply liC | apply lbC | apply lsC | apply vIc | apply vBc | apply vSc | apply vLc | apply mapC | apply Hc_markBindingSLa | apply Ec_markBindingSLa | apply Sc_markBindingSLa | apply EW0c_markBindingSLa | apply c_markText | apply c_markIntS)
  all_goals (try simp only [std, stdM] at *)
  all_goals (try (first | with_reducible rfl | omega | assumption | (refine (decide_eq_true ?_).symm; assumption) | (refine (decide_eq_false ?_).symm; assumption) | (refine rowGet ?_; (first | omega | (simp only [std, stdM]; omega) | grind)) | (refine getC ?_ rfl; (first | omega | (simp only [std, stdM]; omega) | grind)) | (refine fill_step ?_ ?_; (first | omega | (simp only [std, stdM]; omega) | grind); (first | rfl | exact (Row.eq _).trans rfl)) | (refine fill_init ?_; (first | rfl | exact (Row.eq _).trans rfl)) | (refine set_row ?_; (simp only [List.length_map, List.length_set, mkTo_len]; omega)) | (refine mkToRow ?_; (first | omega | (simp only [std, stdM]; omega) | grind)) | (refine mkTo_row ?_ rfl; (first | omega | (simp only [std, stdM]; omega) | grind)) | (refine mkTo_step ?_ ?_; (first | omega | (simp only [std, stdM]; omega) | grind); (first | grind [mkTo_all, snocI, snocS, rowSnoc])) | grind [mkTo_all, snocI, snocS, rowSnoc]))
abbrev P_c_markRulesS (L : List Rules) (n : Int) : Prop := CallOK Try.prog 110 [.arr true 3 (L.map rulesC)] [.one (.ref 0), li n] [.arr true 3 ((seqM mkR cR L n).map rulesC)] (.sv (li (n + sumBy cR L)))
def Tc_markRulesSLa (L : List Rules) (n : Int) (x0 : SV) (x1 : SV) (x2 : Ob) : St := St.mk (regsOf 34 [(0, AV.sv (SV.one (AC.ref 0))), (1, AV.sv x1), (5, AV.sv x0)]) [x2] 1 
def Lc_markRulesSLa (L : List Rules) (n : Int) (k : Nat) : St := Tc_markRulesSLa L n (li (↑k : Int)) (li (n + (↑(sumBy cR (List.take k L)) : Int))) (Ob.arr true 3 (List.map rulesC
 (mkTo mkR cR L n k))) 
def Ic_markRulesSLa (L : List Rules) (n : Int) : Nat → St → Prop := Head (Lc_markRulesSLa L n) (fun k => k ≤ List.length L ∧ List.length L ≤ 9223372036854775807) fun k =>
 List.length L - k 
def W0c_markRulesSLa (L : List Rules) (n : Int) (x0 : SV) (x1 : Ob) : St := St.mk (regsOf 34 [(1, AV.sv x0)]) [x1] 1 
def Yc_markRulesSLa (L : List Rules) (n : Int) : List (Prop × AEx × St) := [(True, AEx.exit 0, W0c_markRulesSLa L n (li (n + (↑(sumBy cR L) : Int))) (Ob.arr true 3 (List.map rulesC
 (seqM mkR cR L n))))]
theorem Hc_markRulesSLa {L : List Rules} {n : Int} {k : Nat} {m : Nat} (h : (fun k => k ≤ List.length L ∧ List.length L ≤ 9223372036854775807) k) (hm : (fun k => List.length L - k)
 k = m) : Ic_markRulesSLa L n m (Lc_markRulesSLa L n k) := hm ▸ Head.mk h
theorem Ec_markRulesSLa {L : List Rules} {n : Int} {k : Nat} {x0 : SV} {x1 : SV} {x2 : Ob} (h0 : x0 = (li (↑k : Int))) (h1 : x1 = (li (n + (↑(sumBy cR (List.take k L)) : Int))))
 (h2 : x2 = (Ob.arr true 3 (List.map rulesC (mkTo mkR cR L n k)))) : Tc_markRulesSLa L n x0 x1 x2 = Lc_markRulesSLa L n k := by
  rw [h0, h1, h2]
  rfl
theorem EW0c_markRulesSLa {L : List Rules} {n : Int} {x0 y0 : SV} {x1 y1 : Ob} (h0 : x0 = y0) (h1 : x1 = y1) : W0c_markRulesSLa L n x0 x1 = W0c_markRulesSLa L n y0 y1 := by rw [h0,
 h1]
abbrev a8__markRulesSLa (L : List Rules) (k : Nat) := (Rules.literals (List.getD L k default))
abbrev a5__markRulesSLa (L : List Rules) (n : Int) (k : Nat) := (List.map syntaxC (seqM mkY cY (a8__markRulesSLa L k) (n + (↑(sumBy cR (List.take k L)) : Int))))
abbrev a7__markRulesSLa (L : List Rules) (k : Nat) := (Rules.templates (List.getD L k default))
abbrev a2__markRulesSLa (L : List Rules) (n : Int) (k : Nat) := [Cell.list (a5__markRulesSLa L n k), Cell.list (List.map syntaxC (Rules.patterns (List.getD L k default))),
 Cell.list (List.map syntaxC (a7__markRulesSLa L k))]
abbrev a9__markRulesSLa (L : List Rules) (n : Int) (k : Nat) := (List.set (List.map rulesC (mkTo mkR cR L n k)) (Int.toNat (↑k : Int)) (a2__markRulesSLa L n k))
abbrev a3__markRulesSLa (L : List Rules) (n : Int) (k : Nat) := (List.map syntaxC (seqM mkY cY (Rules.patterns (List.getD L k default)) (n + (↑(sumBy cR (List.take k L)) : Int) +
 (↑(sumBy cY (a8__markRulesSLa L k)) : Int))))
abbrev a10__markRulesSLa (L : List Rules) (n : Int) (k : Nat) := [Cell.list (a5__markRulesSLa L n k), Cell.list (a3__markRulesSLa L n k), Cell.list (List.map syntaxC
 (a7__markRulesSLa L k))]
abbrev a1__markRulesSLa (L : List Rules) (n : Int) (k : Nat) := (List.set (a9__markRulesSLa L n k) (Int.toNat (↑k : Int)) (a10__markRulesSLa L n k))
abbrev a4__markRulesSLa (L : List Rules) (n : Int) (k : Nat) := (n + (↑(sumBy cR (List.take k L)) : Int) + (↑(sumBy cY (a8__markRulesSLa L k)) : Int) + (↑(sumBy cY (Rules.patterns
 (List.getD L k default))) : Int))
abbrev a6__markRulesSLa (L : List Rules) (n : Int) (k : Nat) := (li (n + (↑(sumBy cR (List.take k L)) : Int) + (↑(sumBy cY (a8__markRulesSLa L k)) : Int) + (↑(sumBy cY
 (Rules.patterns (List.getD L k default))) : Int) + (↑(sumBy cY (a7__markRulesSLa L k)) : Int)))
theorem run_c_markRulesSLa (L : List Rules) (n : Int) (k : Nat) : aexec Try.prog (loopAt Try.f110 0) (Lc_markRulesSLa L n k) [Orc.br [Orc.sub, Orc.subcall (rulesF (List.getD L k
 default)) (List.map syntaxC (a8__markRulesSLa L k)) 5, Orc.call [Mode.own true 5, Mode.rd] [Ob.arr true 5 (a5__markRulesSLa L n k)] (AV.sv (li (n + (↑(sumBy cR (List.take k L)) :
 Int) + (↑(sumBy cY (a8__markRulesSLa L k)) : Int)))), Orc.sub, Orc.subcall (a2__markRulesSLa L n k) (List.map syntaxC (Rules.patterns (List.getD L k default))) 5, Orc.call
 [Mode.own true 5, Mode.rd] [Ob.arr true 5 (a3__markRulesSLa L n k)] (AV.sv (li (a4__markRulesSLa L n k))), Orc.sub, Orc.subcall (a10__markRulesSLa L n k) (List.map syntaxC
 (a7__markRulesSLa L k)) 5, Orc.call [Mode.own true 5, Mode.rd] [Ob.arr true 5 (List.map syntaxC (seqM mkY cY (a7__markRulesSLa L k) (a4__markRulesSLa L n k)))] (AV.sv
 (a6__markRulesSLa L n k)), Orc.ghost (Ghost.sel [0] [0, 1, 5]), Orc.goto (List.length L - (k + 1)) (Lc_markRulesSLa L n (k + 1))] [Orc.ghost (Ghost.sel [0] [1]), Orc.out 0]]
 (loopK (Ic_markRulesSLa L n) (Yc_markRulesSLa L n) (List.length L - k)) = (List.length (List.map rulesC (mkTo mkR cR L n k)) ≤ 9223372036854775807 → (decide ((↑k : Int) <
 (↑(List.length (List.map rulesC (mkTo mkR cR L n k))) : Int)) = true → (0 ≤ (↑k : Int) ∧ Int.toNat (↑k : Int) < List.length (List.map rulesC (mkTo mkR cR L n k))) ∧ Int.toNat (↑k
 : Int) < List.length (List.map rulesC (mkTo mkR cR L n k)) ∧ (List.map rulesC (mkTo mkR cR L n k))[Int.toNat (↑k : Int)]? = some (rulesF (List.getD L k default)) ∧ some (Cell.list
 (List.map syntaxC (a8__markRulesSLa L k))) = some (Cell.list (List.map syntaxC (a8__markRulesSLa L k))) ∧ (∀ (x : List Cell), x ∈ List.map syntaxC (a8__markRulesSLa L k) →
 List.length x = 5) ∧ CallOK Try.prog 89 [Ob.arr true 5 (List.map syntaxC (a8__markRulesSLa L k))] [SV.one (AC.ref 0), li (n + (↑(sumBy cR (List.take k L)) : Int))] [Ob.arr true 5
 (a5__markRulesSLa L n k)] (AV.sv (li (n + (↑(sumBy cR (List.take k L)) : Int) + (↑(sumBy cY (a8__markRulesSLa L k)) : Int)))) ∧ (0 ≤ (↑k : Int) ∧ Int.toNat (↑k : Int) <
 List.length (a9__markRulesSLa L n k)) ∧ Int.toNat (↑k : Int) < List.length (a9__markRulesSLa L n k) ∧ (a9__markRulesSLa L n k)[Int.toNat (↑k : Int)]? = some (a2__markRulesSLa L n
 k) ∧ some (Cell.list (List.map syntaxC (Rules.patterns (List.getD L k default)))) = some (Cell.list (List.map syntaxC (Rules.patterns (List.getD L k default)))) ∧ (∀ (x : List
 Cell), x ∈ List.map syntaxC (Rules.patterns (List.getD L k default)) → List.length x = 5) ∧ CallOK Try.prog 89 [Ob.arr true 5 (List.map syntaxC (Rules.patterns (List.getD L k
 default)))] [SV.one (AC.ref 0), li (n + (↑(sumBy cR (List.take k L)) : Int) + (↑(sumBy cY (a8__markRulesSLa L k)) : Int))] [Ob.arr true 5 (a3__markRulesSLa L n k)] (AV.sv (li
 (a4__markRulesSLa L n k))) ∧ (0 ≤ (↑k : Int) ∧ Int.toNat (↑k : Int) < List.length (a1__markRulesSLa L n k)) ∧ Int.toNat (↑k : Int) < List.length (a1__markRulesSLa L n k) ∧
 (a1__markRulesSLa L n k)[Int.toNat (↑k : Int)]? = some (a10__markRulesSLa L n k) ∧ some (Cell.list (List.map syntaxC (a7__markRulesSLa L k))) = some (Cell.list (List.map syntaxC
 (a7__markRulesSLa L k))) ∧ (∀ (x : List Cell), x ∈ List.map syntaxC (a7__markRulesSLa L k) → List.length x = 5) ∧ CallOK Try.prog 89 [Ob.arr true 5 (List.map syntaxC
 (a7__markRulesSLa L k))] [SV.one (AC.ref 0), li (a4__markRulesSLa L n k)] [Ob.arr true 5 (List.map syntaxC (seqM mkY cY (a7__markRulesSLa L k) (a4__markRulesSLa L n k)))] (AV.sv
 (a6__markRulesSLa L n k)) ∧ rng IntKind.i64 ((↑k : Int) + 1) ∧ List.length L - (k + 1) < List.length L - k ∧ Tc_markRulesSLa L n (li ((↑k : Int) + 1)) (a6__markRulesSLa L n k)
 (Ob.arr true 3 (List.set (a1__markRulesSLa L n k) (Int.toNat (↑k : Int)) [Cell.list (a5__markRulesSLa L n k), Cell.list (a3__markRulesSLa L n k), Cell.list (List.map syntaxC (seqM
 mkY cY (a7__markRulesSLa L k) (a4__markRulesSLa L n k)))])) = Lc_markRulesSLa L n (k + 1) ∧ Ic_markRulesSLa L n (List.length L - (k + 1)) (Lc_markRulesSLa L n (k + 1))) ∧ (decide
 ((↑k : Int) < (↑(List.length (List.map rulesC (mkTo mkR cR L n k))) : Int)) = false → True ∧ W0c_markRulesSLa L n (li (n + (↑(sumBy cR (List.take k L)) : Int))) (Ob.arr true 3
 (List.map rulesC (mkTo mkR cR L n k))) = W0c_markRulesSLa L n (li (n + (↑(sumBy cR L) : Int))) (Ob.arr true 3 (List.map rulesC (seqM mkR cR L n))))) := by kernel_rfl
theorem Sc_markRulesSLa (L : List Rules) (n : Int) (h0 : 0 ≤ n) (h : n + (↑(sumBy cR L) : Int) ≤ 2147483647) (h2 : List.length L ≤ 2147483647)  : LoopSem Try.prog (loopAt Try.f110
 0) (Ic_markRulesSLa L n) (Yc_markRulesSLa L n) := by
  refine LoopSem.ofHead wide fun k h => ⟨_, _, run_c_markRulesSLa L n k, ?_⟩
  try delta a8__markRulesSLa a5__markRulesSLa a7__markRulesSLa a2__markRulesSLa a9__markRulesSLa a3__markRulesSLa a10__markRulesSLa a1__markRulesSLa a4__markRulesSLa a6__markRulesSLa
  have g0 := sumBy_takeLe cR L (k + 1)
  with_reducible repeat' (first | apply And.intro | exact flatI | exact flatS | exact rowLens | (intro; skip) | apply obsN | apply obsC | apply obA | apply obM | apply obB | apply svA | apply tupA | apply lcA | apply lcS | apply svC | apply liC | apply lbC | apply lsC | apply vIc | apply vBc | apply vSc | apply vLc | apply mapC | apply Hc_markRulesSLa | apply Ec_markRulesSLa | apply EW0c_markRulesSLa | apply c_markSyntaxS | apply c_markSyntaxSL)
  all_goals (try simp only [std, stdM] at *)
  all_goals (try (first | with_reducible rfl | omega | assumption | (refine (decide_eq_true ?_).symm; assumption) | (refine (decide_eq_false ?_).symm; assumption) | (refine rowGet ?_; (first | omega | (simp only [std, stdM]; omega) | grind)) | (refine getC ?_ rfl; (first | omega | (simp only [std, stdM]; omega) | grind)) | (refine fill_step ?_ ?_; (first | omega | (simp only [std, stdM]; omega) | grind); (first | rfl | exact (Row.eq _).trans rfl)) | (refine fill_init ?_; (first | rfl | exact (Row.eq _).trans rfl)) | (refine set_row ?_; (simp only [List.length_map, List.length_set, mkTo_len]; omega)) | (refine mkToRow ?_; (first | omega | (simp only [std, stdM]; omega) | grind)) | (refine mkTo_row ?_ rfl; (first | omega | (simp only [std, stdM]; omega) | grind)) | (refine mkTo_step ?_ ?_; (first | omega | (simp only [std, stdM]; omega) | grind); (first | exact mkR_C _ _ | grind [sumBy_step, getD_mem', cR_eq, mkR_C, mkTo_all, snocI, snocS, rowSnoc])) | grind [sumBy_step, getD_mem', cR_eq, mkR_C, mkTo_all, snocI, snocS, rowSnoc]))
theorem run_c_markRulesS (L : List Rules) (n : Int) : aexec Try.prog (Option.getD (Func.body Try.f110) Code.skip) (entry [Ob.arr true 3 (List.map rulesC L)] [SV.one (AC.ref 0), li
 n] 34) [Orc.ghost (Ghost.sel [0] [0, 1, 5]), Orc.loop (List.length L - 0) (Lc_markRulesSLa L n 0) (Ic_markRulesSLa L n) [(True, AEx.exit 0, W0c_markRulesSLa L n (li (n + (↑(sumBy
 cR L) : Int))) (Ob.arr true 3 (List.map rulesC (seqM mkR cR L n))), [Orc.fin []])]] (finK Try.prog [ResultVar.tmp 4] [Ob.arr true 3 (List.map rulesC (seqM mkR cR L n))] (AV.sv (li
 (n + (↑(sumBy cR L) : Int))))) = (Tc_markRulesSLa L n (li 0) (li n) (Ob.arr true 3 (List.map rulesC L)) = Lc_markRulesSLa L n 0 ∧ Ic_markRulesSLa L n (List.length L - 0)
 (Lc_markRulesSLa L n 0) ∧ LoopSem Try.prog (loopAt Try.f110 0) (Ic_markRulesSLa L n) (Yc_markRulesSLa L n) ∧ (True → ObsEq [Ob.arr true 3 (List.map rulesC (seqM mkR cR L n))]
 [Ob.arr true 3 (List.map rulesC (seqM mkR cR L n))] ∧ AV.sv (li (n + (↑(sumBy cR L) : Int))) = AV.sv (li (n + (↑(sumBy cR L) : Int)))) ∧ True) := by kernel_rfl
theorem c_markRulesS (L : List Rules) (n : Int) (h0 : 0 ≤ n) (h : n + sumBy cR L ≤ 2147483647) (h2 : L.length ≤ 2147483647)  : P_c_markRulesS L n := by
  refine CallOK.ofRun wide (run_c_markRulesS L n) Try.call110 Try.func110 rfl rfl rfl ?_
  with_reducible repeat' (first | apply And.intro | exact flatI | exact flatS | exact rowLens | (intro; skip) | apply obsN | apply obsC | apply obA | apply obM | apply obB | apply svA | apply tupA | apply lcA | apply lcS | apply svC | apply liC | apply lbC | apply lsC | apply vIc | apply vBc | apply vSc | apply vLc | apply mapC | apply Hc_markRulesSLa | apply Ec_markRulesSLa | apply Sc_markRulesSLa | apply EW0c_markRulesSLa | apply c_markSyntaxS | apply c_markSyntaxSL)
  all_goals (try simp only [std, stdM] at *)
  all_goals (try (first | with_reducible rfl | omega | assumption | (refine (decide_eq_true ?_).symm; assumption) | (refine (decide_eq_false ?_).symm; assumption) | (refine rowGet ?_; (first | omega | (simp only [std, stdM]; omega) | grind)) | (refine getC ?_ rfl; (first | omega | (simp only [std, stdM]; omega) | grind)) | (refine fill_step ?_ ?_; (first | omega | (simp only [std, stdM]; omega) | grind); (first | rfl | exact (Row.eq _).trans rfl)) | (refine fill_init ?_; (first | rfl | exact (Row.eq _).trans rfl)) | (refine set_row ?_; (simp only [List.length_map, List.length_set, mkTo_len]; omega)) | (refine mkToRow ?_; (first | omega | (simp only [std, stdM]; omega) | grind)) | (refine mkTo_row ?_ rfl; (first | omega | (simp only [std, stdM]; omega) | grind)) | (refine mkTo_step ?_ ?_; (first | omega | (simp only [std, stdM]; omega) | grind); (first | grind [mkTo_all, snocI, snocS, rowSnoc])) | grind [mkTo_all, snocI, snocS, rowSnoc]))
abbrev P_c_markExpander (x : Expander) (n : Int) : Prop := CallOK Try.prog 22 [.arr true 4 (x.bindings.map bindingC), .arr true 3 (x.macros.map rulesC)] [.agg [.ref 0, .ref 1, vI x.scope, vI x.vari, vI x.steps], li n] [.arr true 4 ((seqM mkB cB x.bindings (n)).map bindingC), .arr true 3 ((seqM mkR cR x.macros (n + sumBy cB x.bindings)).map rulesC)] (.sv (li (n + sumBy cB x.bindings + sumBy cR x.macros)))
theorem run_c_markExpander (x : Expander) (n : Int) : aexec Try.prog (Option.getD (Func.body Try.f22) Code.skip) (entry [Ob.arr true 4 (List.map bindingC (Expander.bindings x)),
 Ob.arr true 3 (List.map rulesC (Expander.macros x))] [SV.agg [AC.ref 0, AC.ref 1, vI (Expander.scope x), vI (Expander.vari x), vI (Expander.steps x)], li n] 14) [Orc.call
 [Mode.own true 4, Mode.rd] [Ob.arr true 4 (List.map bindingC (seqM mkB cB (Expander.bindings x) n))] (AV.sv (li (n + (↑(sumBy cB (Expander.bindings x)) : Int)))), Orc.call
 [Mode.own true 3, Mode.rd] [Ob.arr true 3 (List.map rulesC (seqM mkR cR (Expander.macros x) (n + (↑(sumBy cB (Expander.bindings x)) : Int))))] (AV.sv (li (n + (↑(sumBy cB
 (Expander.bindings x)) : Int) + (↑(sumBy cR (Expander.macros x)) : Int)))), Orc.fin []] (finK Try.prog [ResultVar.tmp 4] [Ob.arr true 4 (List.map bindingC (seqM mkB cB
 (Expander.bindings x) n)), Ob.arr true 3 (List.map rulesC (seqM mkR cR (Expander.macros x) (n + (↑(sumBy cB (Expander.bindings x)) : Int))))] (AV.sv (li (n + (↑(sumBy cB
 (Expander.bindings x)) : Int) + (↑(sumBy cR (Expander.macros x)) : Int))))) = (P_c_markBindingS (Expander.bindings x) n ∧ P_c_markRulesS (Expander.macros x) (n + (↑(sumBy cB
 (Expander.bindings x)) : Int)) ∧ ObsEq [Ob.arr true 4 (List.map bindingC (seqM mkB cB (Expander.bindings x) n)), Ob.arr true 3 (List.map rulesC (seqM mkR cR (Expander.macros x) (n
 + (↑(sumBy cB (Expander.bindings x)) : Int))))] [Ob.arr true 4 (List.map bindingC (seqM mkB cB (Expander.bindings x) n)), Ob.arr true 3 (List.map rulesC (seqM mkR cR
 (Expander.macros x) (n + (↑(sumBy cB (Expander.bindings x)) : Int))))] ∧ AV.sv (li (n + (↑(sumBy cB (Expander.bindings x)) : Int) + (↑(sumBy cR (Expander.macros x)) : Int))) =
 AV.sv (li (n + (↑(sumBy cB (Expander.bindings x)) : Int) + (↑(sumBy cR (Expander.macros x)) : Int)))) := by kernel_rfl
theorem c_markExpander (x : Expander) (n : Int) (h0 : 0 ≤ n) (h : n + (sumBy cB x.bindings + sumBy cR x.macros : Nat) ≤ 2147483647) (h21 : x.macros.length ≤ 2147483647)  :
 P_c_markExpander x n := by
  refine CallOK.ofRun wide (run_c_markExpander x n) Try.call22 Try.func22 rfl rfl rfl ?_
  with_reducible repeat' (first | apply And.intro | exact flatI | exact flatS | exact rowLens | (intro; skip) | apply obsN | apply obsC | apply obA | apply obM | apply obB | apply svA | apply tupA | apply lcA | apply lcS | apply svC | apply liC | apply lbC | apply lsC | apply vIc | apply vBc | apply vSc | apply vLc | apply mapC | apply c_markBindingS | apply c_markRulesS)
  all_goals (try simp only [std, stdM] at *)
  all_goals (try (first | with_reducible rfl | omega | assumption | (refine (decide_eq_true ?_).symm; assumption) | (refine (decide_eq_false ?_).symm; assumption) | (refine rowGet ?_; (first | omega | (simp only [std, stdM]; omega) | grind)) | (refine getC ?_ rfl; (first | omega | (simp only [std, stdM]; omega) | grind)) | (refine fill_step ?_ ?_; (first | omega | (simp only [std, stdM]; omega) | grind); (first | rfl | exact (Row.eq _).trans rfl)) | (refine fill_init ?_; (first | rfl | exact (Row.eq _).trans rfl)) | (refine set_row ?_; (simp only [List.length_map, List.length_set, mkTo_len]; omega)) | (refine mkToRow ?_; (first | omega | (simp only [std, stdM]; omega) | grind)) | (refine mkTo_row ?_ rfl; (first | omega | (simp only [std, stdM]; omega) | grind)) | (refine mkTo_step ?_ ?_; (first | omega | (simp only [std, stdM]; omega) | grind); (first | grind [snocI, snocS, rowSnoc])) | grind [snocI, snocS, rowSnoc]))
end Go.Proofs.Ytehpjofddjmbpaa
end
section
namespace Go.Proofs.Ytehpjofddjmbpaa
open Go Go.Proofs.Ytehpjofddjmbpaa.Ab
set_option linter.unusedVariables false
set_option linter.unusedSimpArgs false
set_option maxHeartbeats 4000000
abbrev P_c_heldIntS (L : List Int) (n : Int) : Prop := CallOK Try.prog 32 [] [ll (L.map intC), li n] [] (.sv (li (n + L.length)))
def Tc_heldIntSLa (L : List Int) (n : Int) (x0 : SV) (x1 : SV) : St := St.mk (regsOf 21 [(0, AV.sv (ll (List.map intC L))), (1, AV.sv x1), (5, AV.sv x0)]) [] 0 
def Lc_heldIntSLa (L : List Int) (n : Int) (k : Nat) : St := Tc_heldIntSLa L n (li (↑k : Int)) (li (n + (↑k : Int))) 
def Ic_heldIntSLa (L : List Int) (n : Int) : Nat → St → Prop := Head (Lc_heldIntSLa L n) (fun k => k ≤ List.length L ∧ List.length L ≤ 9223372036854775807) fun k => List.length L -
 k 
def W0c_heldIntSLa (L : List Int) (n : Int) (x0 : SV) : St := St.mk (regsOf 21 [(1, AV.sv x0)]) [] 0 
def W1c_heldIntSLa (L : List Int) (n : Int) (x0 : SV) : St := St.mk (regsOf 21 [(4, AV.sv x0)]) [] 0 
def Yc_heldIntSLa (L : List Int) (n : Int) : List (Prop × AEx × St) := [(True, AEx.exit 0, W0c_heldIntSLa L n (li (n + (↑(List.length L) : Int)))), (False, AEx.ret, W1c_heldIntSLa
 L n (li (-1 : Int)))]
theorem Hc_heldIntSLa {L : List Int} {n : Int} {k : Nat} {m : Nat} (h : (fun k => k ≤ List.length L ∧ List.length L ≤ 9223372036854775807) k) (hm : (fun k => List.length L - k) k =
 m) : Ic_heldIntSLa L n m (Lc_heldIntSLa L n k) := hm ▸ Head.mk h
theorem Ec_heldIntSLa {L : List Int} {n : Int} {k : Nat} {x0 : SV} {x1 : SV} (h0 : x0 = (li (↑k : Int))) (h1 : x1 = (li (n + (↑k : Int)))) : Tc_heldIntSLa L n x0 x1 = Lc_heldIntSLa
 L n k := by
  rw [h0, h1]
  rfl
theorem EW0c_heldIntSLa {L : List Int} {n : Int} {x0 y0 : SV} (h0 : x0 = y0) : W0c_heldIntSLa L n x0 = W0c_heldIntSLa L n y0 := by rw [h0]
theorem EW1c_heldIntSLa {L : List Int} {n : Int} {x0 y0 : SV} (h0 : x0 = y0) : W1c_heldIntSLa L n x0 = W1c_heldIntSLa L n y0 := by rw [h0]
theorem run_c_heldIntSLa (L : List Int) (n : Int) (k : Nat) : aexec Try.prog (loopAt Try.f32 0) (Lc_heldIntSLa L n k) [Orc.br [Orc.cells (intC (List.getD L k default)), Orc.br
 [Orc.ghost (Ghost.sel [] [4]), Orc.out 1] [Orc.ghost (Ghost.sel [] [0, 1, 5]), Orc.goto (List.length L - (k + 1)) (Lc_heldIntSLa L n (k + 1))]] [Orc.ghost (Ghost.sel [] [1]),
 Orc.out 0]] (loopK (Ic_heldIntSLa L n) (Yc_heldIntSLa L n) (List.length L - k)) = (List.length (List.map intC L) ≤ 9223372036854775807 → (decide ((↑k : Int) < (↑(List.length
 (List.map intC L)) : Int)) = true → (0 ≤ (↑k : Int) ∧ (List.map intC L)[Int.toNat (↑k : Int)]? = some [cI (List.getD L k 0)]) ∧ (decide (List.getD L k (0 : Int) ≠ n + (↑k : Int))
 = true → False ∧ W1c_heldIntSLa L n (li (-1 : Int)) = W1c_heldIntSLa L n (li (-1 : Int))) ∧ (decide (List.getD L k (0 : Int) ≠ n + (↑k : Int)) = false → rng IntKind.i64 (n + (↑k :
 Int) + 1) ∧ rng IntKind.i64 ((↑k : Int) + 1) ∧ List.length L - (k + 1) < List.length L - k ∧ Tc_heldIntSLa L n (li ((↑k : Int) + 1)) (li (n + (↑k : Int) + 1)) = Lc_heldIntSLa L n
 (k + 1) ∧ Ic_heldIntSLa L n (List.length L - (k + 1)) (Lc_heldIntSLa L n (k + 1)))) ∧ (decide ((↑k : Int) < (↑(List.length (List.map intC L)) : Int)) = false → True ∧
 W0c_heldIntSLa L n (li (n + (↑k : Int))) = W0c_heldIntSLa L n (li (n + (↑(List.length L) : Int))))) := by kernel_rfl
theorem Sc_heldIntSLa (L : List Int) (n : Int) (h0 : 0 ≤ n) (h : n + (↑(List.length L) : Int) ≤ 2147483647) (hm : seqM mkI cOne L n = L)  : LoopSem Try.prog (loopAt Try.f32 0)
 (Ic_heldIntSLa L n) (Yc_heldIntSLa L n) := by
  refine LoopSem.ofHead wide fun k h => ⟨_, _, run_c_heldIntSLa L n k, ?_⟩
  with_reducible repeat' (first | apply And.intro | exact flatI | exact flatS | exact rowLens | (intro; skip) | apply obsN | apply obsC | apply obA | apply obM | apply obB | apply svA | apply tupA | apply lcA | apply lcS | apply svC | apply liC | apply lbC | apply lsC | apply vIc | apply vBc | apply vSc | apply vLc | apply mapC | apply Hc_heldIntSLa | apply Ec_heldIntSLa | apply EW0c_heldIntSLa | apply EW1c_heldIntSLa)
  all_goals (try simp only [std, stdM] at *)
  all_goals (try (first | with_reducible rfl | omega | assumption | (refine (decide_eq_true ?_).symm; assumption) | (refine (decide_eq_false ?_).symm; assumption) | (refine rowGet ?_; (first | omega | (simp only [std, stdM]; omega) | grind)) | (refine getC ?_ rfl; (first | omega | (simp only [std, stdM]; omega) | grind)) | (refine fill_step ?_ ?_; (first | omega | (simp only [std, stdM]; omega) | grind); (first | rfl | exact (Row.eq _).trans rfl)) | (refine fill_init ?_; (first | rfl | exact (Row.eq _).trans rfl)) | (refine set_row ?_; (simp only [List.length_map, List.length_set, mkTo_len]; omega)) | (refine mkToRow ?_; (first | omega | (simp only [std, stdM]; omega) | grind)) | (refine mkTo_row ?_ rfl; (first | omega | (simp only [std, stdM]; omega) | grind)) | (refine mkTo_step ?_ ?_; (first | omega | (simp only [std, stdM]; omega) | grind); (first | grind [seqI_get hm, snocI, snocS, rowSnoc])) | grind [seqI_get hm, snocI, snocS, rowSnoc]))
theorem run_c_heldIntS (L : List Int) (n : Int) : aexec Try.prog (Option.getD (Func.body Try.f32) Code.skip) (entry [] [ll (List.map intC L), li n] 21) [Orc.ghost (Ghost.sel [] [0,
 1, 5]), Orc.loop (List.length L - 0) (Lc_heldIntSLa L n 0) (Ic_heldIntSLa L n) [(True, AEx.exit 0, W0c_heldIntSLa L n (li (n + (↑(List.length L) : Int))), [Orc.fin []]), (False,
 AEx.ret, W1c_heldIntSLa L n (li (-1 : Int)), [Orc.fin []])]] (finK Try.prog [ResultVar.tmp 4] [] (AV.sv (li (n + (↑(List.length L) : Int))))) = (Tc_heldIntSLa L n (li 0) (li n) =
 Lc_heldIntSLa L n 0 ∧ Ic_heldIntSLa L n (List.length L - 0) (Lc_heldIntSLa L n 0) ∧ LoopSem Try.prog (loopAt Try.f32 0) (Ic_heldIntSLa L n) (Yc_heldIntSLa L n) ∧ (True → ObsEq []
 [] ∧ AV.sv (li (n + (↑(List.length L) : Int))) = AV.sv (li (n + (↑(List.length L) : Int)))) ∧ (False → ObsEq [] [] ∧ AV.sv (li (-1 : Int)) = AV.sv (li (n + (↑(List.length L) :
 Int)))) ∧ True) := by kernel_rfl
theorem c_heldIntS (L : List Int) (n : Int) (h0 : 0 ≤ n) (h : n + L.length ≤ 2147483647) (hm : seqM mkI cOne L n = L)  : P_c_heldIntS L n := by
  refine CallOK.ofRun wide (run_c_heldIntS L n) Try.call32 Try.func32 rfl rfl rfl ?_
  with_reducible repeat' (first | apply And.intro | exact flatI | exact flatS | exact rowLens | (intro; skip) | apply obsN | apply obsC | apply obA | apply obM | apply obB | apply svA | apply tupA | apply lcA | apply lcS | apply svC | apply liC | apply lbC | apply lsC | apply vIc | apply vBc | apply vSc | apply vLc | apply mapC | apply Hc_heldIntSLa | apply Ec_heldIntSLa | apply Sc_heldIntSLa | apply EW0c_heldIntSLa | apply EW1c_heldIntSLa)
  all_goals (try simp only [std, stdM] at *)
  all_goals (try (first | with_reducible rfl | omega | assumption | (refine (decide_eq_true ?_).symm; assumption) | (refine (decide_eq_false ?_).symm; assumption) | (refine rowGet ?_; (first | omega | (simp only [std, stdM]; omega) | grind)) | (refine getC ?_ rfl; (first | omega | (simp only [std, stdM]; omega) | grind)) | (refine fill_step ?_ ?_; (first | omega | (simp only [std, stdM]; omega) | grind); (first | rfl | exact (Row.eq _).trans rfl)) | (refine fill_init ?_; (first | rfl | exact (Row.eq _).trans rfl)) | (refine set_row ?_; (simp only [List.length_map, List.length_set, mkTo_len]; omega)) | (refine mkToRow ?_; (first | omega | (simp only [std, stdM]; omega) | grind)) | (refine mkTo_row ?_ rfl; (first | omega | (simp only [std, stdM]; omega) | grind)) | (refine mkTo_step ?_ ?_; (first | omega | (simp only [std, stdM]; omega) | grind); (first | grind [snocI, snocS, rowSnoc])) | grind [snocI, snocS, rowSnoc]))
abbrev P_c_heldSyntaxS (x : Syntax) (n : Int) : Prop := CallOK Try.prog 194 [] [ll (x.items.map syntaxC), li n] [] (.sv (li (n + sumBy cY x.items)))
def Tc_heldSyntaxS_sLa (x : Syntax) (n : Int) (x0 : SV) (x1 : SV) : St := St.mk (regsOf 59 [(0, AV.sv (ll (List.map syntaxC (Syntax.items x)))), (1, AV.sv x1), (5, AV.sv x0)]) [] 0
def Lc_heldSyntaxS_sLa (x : Syntax) (n : Int) (k : Nat) : St := Tc_heldSyntaxS_sLa x n (li (↑k : Int)) (li (n + (↑(sumBy cY (List.take k (Syntax.items x))) : Int))) 
def Ic_heldSyntaxS_sLa (x : Syntax) (n : Int) : Nat → St → Prop := Head (Lc_heldSyntaxS_sLa x n) (fun k => k ≤ List.length (Syntax.items x) ∧ List.length (Syntax.items x) ≤
 9223372036854775807) fun k => List.length (Syntax.items x) - k 
def W0c_heldSyntaxS_sLa (x : Syntax) (n : Int) (x0 : SV) : St := St.mk (regsOf 59 [(1, AV.sv x0)]) [] 0 
def W1c_heldSyntaxS_sLa (x : Syntax) (n : Int) (x0 : SV) : St := St.mk (regsOf 59 [(4, AV.sv x0)]) [] 0 
def Yc_heldSyntaxS_sLa (x : Syntax) (n : Int) : List (Prop × AEx × St) := [(True, AEx.exit 0, W0c_heldSyntaxS_sLa x n (li (n + (↑(sumBy cY (Syntax.items x)) : Int)))), (False,
 AEx.ret, W1c_heldSyntaxS_sLa x n (li (-1 : Int)))]
theorem Hc_heldSyntaxS_sLa {x : Syntax} {n : Int} {k : Nat} {m : Nat} (h : (fun k => k ≤ List.length (Syntax.items x) ∧ List.length (Syntax.items x) ≤ 9223372036854775807) k) (hm :
 (fun k => List.length (Syntax.items x) - k) k = m) : Ic_heldSyntaxS_sLa x n m (Lc_heldSyntaxS_sLa x n k) := hm ▸ Head.mk h
theorem Ec_heldSyntaxS_sLa {x : Syntax} {n : Int} {k : Nat} {x0 : SV} {x1 : SV} (h0 : x0 = (li (↑k : Int))) (h1 : x1 = (li (n + (↑(sumBy cY (List.take k (Syntax.items x))) :
 Int)))) : Tc_heldSyntaxS_sLa x n x0 x1 = Lc_heldSyntaxS_sLa x n k := by
  rw [h0, h1]
  rfl
theorem EW0c_heldSyntaxS_sLa {x : Syntax} {n : Int} {x0 y0 : SV} (h0 : x0 = y0) : W0c_heldSyntaxS_sLa x n x0 = W0c_heldSyntaxS_sLa x n y0 := by rw [h0]
theorem EW1c_heldSyntaxS_sLa {x : Syntax} {n : Int} {x0 y0 : SV} (h0 : x0 = y0) : W1c_heldSyntaxS_sLa x n x0 = W1c_heldSyntaxS_sLa x n y0 := by rw [h0]
abbrev a1__heldSyntaxS_sLa (x : Syntax) (k : Nat) := (↑(sumBy cY (List.take k (Syntax.items x))) : Int)
abbrev a2__heldSyntaxS_sLa (x : Syntax) (k : Nat) := (0 ≤ (↑k : Int) ∧ (List.map syntaxC (Syntax.items x))[Int.toNat (↑k : Int)]? = some (syntaxF (List.getD (Syntax.items x) k
 default)))
abbrev a3__heldSyntaxS_sLa (x : Syntax) (k : Nat) := (↑(List.length (Syntax.scopes (List.getD (Syntax.items x) k default))) : Int)
abbrev a4__heldSyntaxS_sLa (x : Syntax) (n : Int) (k : Nat) := (li (n + (a1__heldSyntaxS_sLa x k) + 1 + 1 + 1 + (a3__heldSyntaxS_sLa x k) + (↑(sumBy cY (Syntax.items (List.getD
 (Syntax.items x) k default))) : Int)))
theorem run_c_heldSyntaxS_sLa (x : Syntax) (n : Int) (k : Nat) : aexec Try.prog (loopAt Try.f194 0) (Lc_heldSyntaxS_sLa x n k) [Orc.br [Orc.cells (syntaxF (List.getD (Syntax.items
 x) k default)), Orc.br [Orc.ghost (Ghost.sel [] [4]), Orc.out 1] [Orc.cells (syntaxF (List.getD (Syntax.items x) k default)), Orc.br [Orc.ghost (Ghost.sel [] [4]), Orc.out 1]
 [Orc.draw [], Orc.cells (syntaxF (List.getD (Syntax.items x) k default)), Orc.call [Mode.rd] [] (AV.sv (ls (mText (n + (a1__heldSyntaxS_sLa x k) + 1 + 1)))), Orc.br [Orc.ghost
 (Ghost.sel [] [4]), Orc.out 1] [Orc.cells (syntaxF (List.getD (Syntax.items x) k default)), Orc.call [Mode.rd, Mode.rd] [] (AV.sv (li (n + (a1__heldSyntaxS_sLa x k) + 1 + 1 + 1 +
 (a3__heldSyntaxS_sLa x k)))), Orc.br [Orc.ghost (Ghost.sel [] [4]), Orc.out 1] [Orc.cells (syntaxF (List.getD (Syntax.items x) k default)), Orc.call [Mode.rd, Mode.rd] [] (AV.sv
 (a4__heldSyntaxS_sLa x n k)), Orc.br [Orc.ghost (Ghost.sel [] [4]), Orc.out 1] [Orc.ghost (Ghost.sel [] [0, 1, 5]), Orc.goto (List.length (Syntax.items x) - (k + 1))
 (Lc_heldSyntaxS_sLa x n (k + 1))]]]]]] [Orc.ghost (Ghost.sel [] [1]), Orc.out 0]] (loopK (Ic_heldSyntaxS_sLa x n) (Yc_heldSyntaxS_sLa x n) (List.length (Syntax.items x) - k)) =
 (List.length (List.map syntaxC (Syntax.items x)) ≤ 9223372036854775807 → (decide ((↑k : Int) < (↑(List.length (List.map syntaxC (Syntax.items x))) : Int)) = true →
 (a2__heldSyntaxS_sLa x k) ∧ (decide (Syntax.kind (List.getD (Syntax.items x) k default) ≠ n + (a1__heldSyntaxS_sLa x k)) = true → False ∧ W1c_heldSyntaxS_sLa x n (li (-1 : Int)) =
 W1c_heldSyntaxS_sLa x n (li (-1 : Int))) ∧ (decide (Syntax.kind (List.getD (Syntax.items x) k default) ≠ n + (a1__heldSyntaxS_sLa x k)) = false → rng IntKind.i64 (n +
 (a1__heldSyntaxS_sLa x k) + 1) ∧ (a2__heldSyntaxS_sLa x k) ∧ (decide (Syntax.number (List.getD (Syntax.items x) k default) ≠ n + (a1__heldSyntaxS_sLa x k) + 1) = true → False ∧
 W1c_heldSyntaxS_sLa x n (li (-1 : Int)) = W1c_heldSyntaxS_sLa x n (li (-1 : Int))) ∧ (decide (Syntax.number (List.getD (Syntax.items x) k default) ≠ n + (a1__heldSyntaxS_sLa x k)
 + 1) = false → rng IntKind.i64 (n + (a1__heldSyntaxS_sLa x k) + 1 + 1) ∧ (a2__heldSyntaxS_sLa x k) ∧ P_c_markText (n + (a1__heldSyntaxS_sLa x k) + 1 + 1) ∧ (decide (Array.toList
 (ByteArray.data (Syntax.text (List.getD (Syntax.items x) k default))) ≠ Array.toList (ByteArray.data (mText (n + (a1__heldSyntaxS_sLa x k) + 1 + 1)))) = true → False ∧
 W1c_heldSyntaxS_sLa x n (li (-1 : Int)) = W1c_heldSyntaxS_sLa x n (li (-1 : Int))) ∧ (decide (Array.toList (ByteArray.data (Syntax.text (List.getD (Syntax.items x) k default))) ≠
 Array.toList (ByteArray.data (mText (n + (a1__heldSyntaxS_sLa x k) + 1 + 1)))) = false → rng IntKind.i64 (n + (a1__heldSyntaxS_sLa x k) + 1 + 1 + 1) ∧ (a2__heldSyntaxS_sLa x k) ∧
 P_c_heldIntS (Syntax.scopes (List.getD (Syntax.items x) k default)) (n + (a1__heldSyntaxS_sLa x k) + 1 + 1 + 1) ∧ (decide (n + (a1__heldSyntaxS_sLa x k) + 1 + 1 + 1 +
 (a3__heldSyntaxS_sLa x k) < 0) = true → False ∧ W1c_heldSyntaxS_sLa x n (li (-1 : Int)) = W1c_heldSyntaxS_sLa x n (li (-1 : Int))) ∧ (decide (n + (a1__heldSyntaxS_sLa x k) + 1 + 1
 + 1 + (a3__heldSyntaxS_sLa x k) < 0) = false → (a2__heldSyntaxS_sLa x k) ∧ CallOK Try.prog 194 [] [ll (List.map syntaxC (Syntax.items (List.getD (Syntax.items x) k default))), li
 (n + (a1__heldSyntaxS_sLa x k) + 1 + 1 + 1 + (a3__heldSyntaxS_sLa x k))] [] (AV.sv (a4__heldSyntaxS_sLa x n k)) ∧ (decide (n + (a1__heldSyntaxS_sLa x k) + 1 + 1 + 1 +
 (a3__heldSyntaxS_sLa x k) + (↑(sumBy cY (Syntax.items (List.getD (Syntax.items x) k default))) : Int) < 0) = true → False ∧ W1c_heldSyntaxS_sLa x n (li (-1 : Int)) =
 W1c_heldSyntaxS_sLa x n (li (-1 : Int))) ∧ (decide (n + (a1__heldSyntaxS_sLa x k) + 1 + 1 + 1 + (a3__heldSyntaxS_sLa x k) + (↑(sumBy cY (Syntax.items (List.getD (Syntax.items x) k
 default))) : Int) < 0) = false → rng IntKind.i64 ((↑k : Int) + 1) ∧ List.length (Syntax.items x) - (k + 1) < List.length (Syntax.items x) - k ∧ Tc_heldSyntaxS_sLa x n (li ((↑k :
 Int) + 1)) (a4__heldSyntaxS_sLa x n k) = Lc_heldSyntaxS_sLa x n (k + 1) ∧ Ic_heldSyntaxS_sLa x n (List.length (Syntax.items x) - (k + 1)) (Lc_heldSyntaxS_sLa x n (k + 1)))))))) ∧
 (decide ((↑k : Int) < (↑(List.length (List.map syntaxC (Syntax.items x))) : Int)) = false → True ∧ W0c_heldSyntaxS_sLa x n (li (n + (a1__heldSyntaxS_sLa x k))) =
 W0c_heldSyntaxS_sLa x n (li (n + (↑(sumBy cY (Syntax.items x)) : Int))))) := by kernel_rfl
theorem Sc_heldSyntaxS_sLa (x : Syntax) (n : Int) (h0 : 0 ≤ n) (h : n + (↑(sumBy cY (Syntax.items x)) : Int) ≤ 2147483647) (hm : seqM mkY cY (Syntax.items x) n = Syntax.items x)
 (ih : ∀ (z : Syntax), z ∈ Syntax.items x → ∀ (n : Int), 0 ≤ n → n + (↑(sumBy cY (Syntax.items z)) : Int) ≤ 2147483647 → seqM mkY cY (Syntax.items z) n = Syntax.items z →
 P_c_heldSyntaxS z n)  : LoopSem Try.prog (loopAt Try.f194 0) (Ic_heldSyntaxS_sLa x n) (Yc_heldSyntaxS_sLa x n) := by
  refine LoopSem.ofHead wide fun k h => ⟨_, _, run_c_heldSyntaxS_sLa x n k, ?_⟩
  try delta a1__heldSyntaxS_sLa a2__heldSyntaxS_sLa a3__heldSyntaxS_sLa a4__heldSyntaxS_sLa
  have g0 := sumBy_takeLe cY x.items (k + 1)
  have g1 := fun hk : k < x.items.length => mkY_fix (seqM_get hm hk)
  with_reducible repeat' (first | apply And.intro | exact flatI | exact flatS | exact rowLens | exact ih | (intro; skip) | apply obsN | apply obsC | apply obA | apply obM | apply obB | apply svA | apply tupA | apply lcA | apply lcS | apply svC | apply liC | apply lbC | apply lsC | apply vIc | apply vBc | apply vSc | apply vLc | apply mapC | apply Hc_heldSyntaxS_sLa | apply Ec_heldSyntaxS_sLa | apply EW0c_heldSyntaxS_sLa | apply EW1c_heldSyntaxS_sLa | apply c_markText | apply c_heldIntS | apply ih)
  all_goals (try simp only [std, stdM] at *)
  all_goals (try (first | with_reducible rfl | omega | assumption | (refine (decide_eq_true ?_).symm; assumption) | (refine (decide_eq_false ?_).symm; assumption) | (refine rowGet ?_; (first | omega | (simp only [std, stdM]; omega) | grind)) | (refine getC ?_ rfl; (first | omega | (simp only [std, stdM]; omega) | grind)) | (refine fill_step ?_ ?_; (first | omega | (simp only [std, stdM]; omega) | grind); (first | rfl | exact (Row.eq _).trans rfl)) | (refine fill_init ?_; (first | rfl | exact (Row.eq _).trans rfl)) | (refine set_row ?_; (simp only [List.length_map, List.length_set, mkTo_len]; omega)) | (refine mkToRow ?_; (first | omega | (simp only [std, stdM]; omega) | grind)) | (refine mkTo_row ?_ rfl; (first | omega | (simp only [std, stdM]; omega) | grind)) | (refine mkTo_step ?_ ?_; (first | omega | (simp only [std, stdM]; omega) | grind); (first | grind [sumBy_step, getD_mem', cY_eq, snocI, snocS, rowSnoc])) | grind [sumBy_step, getD_mem', cY_eq, snocI, snocS, rowSnoc]))
theorem run_c_heldSyntaxS_s (x : Syntax) (n : Int) : aexec Try.prog (Option.getD (Func.body Try.f194) Code.skip) (entry [] [ll (List.map syntaxC (Syntax.items x)), li n] 59)
 [Orc.ghost (Ghost.sel [] [0, 1, 5]), Orc.loop (List.length (Syntax.items x) - 0) (Lc_heldSyntaxS_sLa x n 0) (Ic_heldSyntaxS_sLa x n) [(True, AEx.exit 0, W0c_heldSyntaxS_sLa x n
 (li (n + (↑(sumBy cY (Syntax.items x)) : Int))), [Orc.fin []]), (False, AEx.ret, W1c_heldSyntaxS_sLa x n (li (-1 : Int)), [Orc.fin []])]] (finK Try.prog [ResultVar.tmp 4] []
 (AV.sv (li (n + (↑(sumBy cY (Syntax.items x)) : Int))))) = (Tc_heldSyntaxS_sLa x n (li 0) (li n) = Lc_heldSyntaxS_sLa x n 0 ∧ Ic_heldSyntaxS_sLa x n (List.length (Syntax.items x)
 - 0) (Lc_heldSyntaxS_sLa x n 0) ∧ LoopSem Try.prog (loopAt Try.f194 0) (Ic_heldSyntaxS_sLa x n) (Yc_heldSyntaxS_sLa x n) ∧ (True → ObsEq [] [] ∧ AV.sv (li (n + (↑(sumBy cY
 (Syntax.items x)) : Int))) = AV.sv (li (n + (↑(sumBy cY (Syntax.items x)) : Int)))) ∧ (False → ObsEq [] [] ∧ AV.sv (li (-1 : Int)) = AV.sv (li (n + (↑(sumBy cY (Syntax.items x)) :
 Int)))) ∧ True) := by kernel_rfl
theorem c_heldSyntaxS_s (x : Syntax) (n : Int) (h0 : 0 ≤ n) (h : n + sumBy cY x.items ≤ 2147483647) (hm : seqM mkY cY x.items n = x.items) (ih : ∀ z ∈ x.items, ∀ (n : Int) (h0 : 0
 ≤ n) (h : n + sumBy cY z.items ≤ 2147483647) (hm : seqM mkY cY z.items n = z.items), P_c_heldSyntaxS z n)  : P_c_heldSyntaxS x n := by
  refine CallOK.ofRun wide (run_c_heldSyntaxS_s x n) Try.call194 Try.func194 rfl rfl rfl ?_
  have gl := cY_len x.items
  with_reducible repeat' (first | apply And.intro | exact flatI | exact flatS | exact rowLens | exact ih | (intro; skip) | apply obsN | apply obsC | apply obA | apply obM | apply obB | apply svA | apply tupA | apply lcA | apply lcS | apply svC | apply liC | apply lbC | apply lsC | apply vIc | apply vBc | apply vSc | apply vLc | apply mapC | apply Hc_heldSyntaxS_sLa | apply Ec_heldSyntaxS_sLa | apply Sc_heldSyntaxS_sLa | apply EW0c_heldSyntaxS_sLa | apply EW1c_heldSyntaxS_sLa | apply c_markText | apply c_heldIntS)
  all_goals (try simp only [std, stdM] at *)
  all_goals (try (first | with_reducible rfl | omega | assumption | (refine (decide_eq_true ?_).symm; assumption) | (refine (decide_eq_false ?_).symm; assumption) | (refine rowGet ?_; (first | omega | (simp only [std, stdM]; omega) | grind)) | (refine getC ?_ rfl; (first | omega | (simp only [std, stdM]; omega) | grind)) | (refine fill_step ?_ ?_; (first | omega | (simp only [std, stdM]; omega) | grind); (first | rfl | exact (Row.eq _).trans rfl)) | (refine fill_init ?_; (first | rfl | exact (Row.eq _).trans rfl)) | (refine set_row ?_; (simp only [List.length_map, List.length_set, mkTo_len]; omega)) | (refine mkToRow ?_; (first | omega | (simp only [std, stdM]; omega) | grind)) | (refine mkTo_row ?_ rfl; (first | omega | (simp only [std, stdM]; omega) | grind)) | (refine mkTo_step ?_ ?_; (first | omega | (simp only [std, stdM]; omega) | grind); (first | grind [mkTo_all, snocI, snocS, rowSnoc])) | grind [mkTo_all, snocI, snocS, rowSnoc]))
theorem c_heldSyntaxS (x : Syntax) : ∀ (n : Int) (h0 : 0 ≤ n) (h : n + sumBy cY x.items ≤ 2147483647) (hm : seqM mkY cY x.items n = x.items), P_c_heldSyntaxS x n := Syntax.ind (P := fun x => ∀ (n : Int) (h0 : 0 ≤ n) (h : n + sumBy cY x.items ≤ 2147483647) (hm : seqM mkY cY x.items n = x.items), P_c_heldSyntaxS x n) (fun x ih n h0 h hm => c_heldSyntaxS_s x n h0 h hm ih) x
theorem c_heldSyntaxSL (L : List Syntax) (n : Int) (h0 : 0 ≤ n) (h : n + sumBy cY L ≤ 2147483647) (hm : seqM mkY cY L n = L) : P_c_heldSyntaxS { (default : Syntax) with items := L } n := c_heldSyntaxS { (default : Syntax) with items := L } n h0 h hm
abbrev P_c_heldBindingS (L : List Binding) (n : Int) : Prop := CallOK Try.prog 111 [] [ll (L.map bindingC), li n] [] (.sv (li (n + sumBy cB L)))
def Tc_heldBindingSLa (L : List Binding) (n : Int) (x0 : SV) (x1 : SV) : St := St.mk (regsOf 50 [(0, AV.sv (ll (List.map bindingC L))), (1, AV.sv x1), (5, AV.sv x0)]) [] 0 
def Lc_heldBindingSLa (L : List Binding) (n : Int) (k : Nat) : St := Tc_heldBindingSLa L n (li (↑k : Int)) (li (n + (↑(sumBy cB (List.take k L)) : Int))) 
def Ic_heldBindingSLa (L : List Binding) (n : Int) : Nat → St → Prop := Head (Lc_heldBindingSLa L n) (fun k => k ≤ List.length L ∧ List.length L ≤ 9223372036854775807) fun k =>
 List.length L - k 
def W0c_heldBindingSLa (L : List Binding) (n : Int) (x0 : SV) : St := St.mk (regsOf 50 [(1, AV.sv x0)]) [] 0 
def W1c_heldBindingSLa (L : List Binding) (n : Int) (x0 : SV) : St := St.mk (regsOf 50 [(4, AV.sv x0)]) [] 0 
def Yc_heldBindingSLa (L : List Binding) (n : Int) : List (Prop × AEx × St) := [(True, AEx.exit 0, W0c_heldBindingSLa L n (li (n + (↑(sumBy cB L) : Int)))), (False, AEx.ret,
 W1c_heldBindingSLa L n (li (-1 : Int)))]
theorem Hc_heldBindingSLa {L : List Binding} {n : Int} {k : Nat} {m : Nat} (h : (fun k => k ≤ List.length L ∧ List.length L ≤ 9223372036854775807) k) (hm : (fun k => List.length L
 - k) k = m) : Ic_heldBindingSLa L n m (Lc_heldBindingSLa L n k) := hm ▸ Head.mk h
theorem Ec_heldBindingSLa {L : List Binding} {n : Int} {k : Nat} {x0 : SV} {x1 : SV} (h0 : x0 = (li (↑k : Int))) (h1 : x1 = (li (n + (↑(sumBy cB (List.take k L)) : Int)))) :
 Tc_heldBindingSLa L n x0 x1 = Lc_heldBindingSLa L n k := by
  rw [h0, h1]
  rfl
theorem EW0c_heldBindingSLa {L : List Binding} {n : Int} {x0 y0 : SV} (h0 : x0 = y0) : W0c_heldBindingSLa L n x0 = W0c_heldBindingSLa L n y0 := by rw [h0]
theorem EW1c_heldBindingSLa {L : List Binding} {n : Int} {x0 y0 : SV} (h0 : x0 = y0) : W1c_heldBindingSLa L n x0 = W1c_heldBindingSLa L n y0 := by rw [h0]
abbrev a1__heldBindingSLa (L : List Binding) (k : Nat) := (↑(List.length (Binding.scopes (List.getD L k default))) : Int)
abbrev a2__heldBindingSLa (L : List Binding) (k : Nat) := (0 ≤ (↑k : Int) ∧ (List.map bindingC L)[Int.toNat (↑k : Int)]? = some (bindingF (List.getD L k default)))
theorem run_c_heldBindingSLa (L : List Binding) (n : Int) (k : Nat) : aexec Try.prog (loopAt Try.f111 0) (Lc_heldBindingSLa L n k) [Orc.br [Orc.draw [], Orc.cells (bindingF
 (List.getD L k default)), Orc.call [Mode.rd] [] (AV.sv (ls (mText (n + (↑(sumBy cB (List.take k L)) : Int))))), Orc.br [Orc.ghost (Ghost.sel [] [4]), Orc.out 1] [Orc.cells
 (bindingF (List.getD L k default)), Orc.call [Mode.rd, Mode.rd] [] (AV.sv (li (n + (↑(sumBy cB (List.take k L)) : Int) + 1 + (a1__heldBindingSLa L k)))), Orc.br [Orc.ghost
 (Ghost.sel [] [4]), Orc.out 1] [Orc.cells (bindingF (List.getD L k default)), Orc.br [Orc.ghost (Ghost.sel [] [4]), Orc.out 1] [Orc.cells (bindingF (List.getD L k default)),
 Orc.br [Orc.ghost (Ghost.sel [] [4]), Orc.out 1] [Orc.ghost (Ghost.sel [] [0, 1, 5]), Orc.goto (List.length L - (k + 1)) (Lc_heldBindingSLa L n (k + 1))]]]]] [Orc.ghost (Ghost.sel
 [] [1]), Orc.out 0]] (loopK (Ic_heldBindingSLa L n) (Yc_heldBindingSLa L n) (List.length L - k)) = (List.length (List.map bindingC L) ≤ 9223372036854775807 → (decide ((↑k : Int) <
 (↑(List.length (List.map bindingC L)) : Int)) = true → (a2__heldBindingSLa L k) ∧ P_c_markText (n + (↑(sumBy cB (List.take k L)) : Int)) ∧ (decide (Array.toList (ByteArray.data
 (Binding.text (List.getD L k default))) ≠ Array.toList (ByteArray.data (mText (n + (↑(sumBy cB (List.take k L)) : Int))))) = true → False ∧ W1c_heldBindingSLa L n (li (-1 : Int))
 = W1c_heldBindingSLa L n (li (-1 : Int))) ∧ (decide (Array.toList (ByteArray.data (Binding.text (List.getD L k default))) ≠ Array.toList (ByteArray.data (mText (n + (↑(sumBy cB
 (List.take k L)) : Int))))) = false → rng IntKind.i64 (n + (↑(sumBy cB (List.take k L)) : Int) + 1) ∧ (a2__heldBindingSLa L k) ∧ P_c_heldIntS (Binding.scopes (List.getD L k
 default)) (n + (↑(sumBy cB (List.take k L)) : Int) + 1) ∧ (decide (n + (↑(sumBy cB (List.take k L)) : Int) + 1 + (a1__heldBindingSLa L k) < 0) = true → False ∧ W1c_heldBindingSLa
 L n (li (-1 : Int)) = W1c_heldBindingSLa L n (li (-1 : Int))) ∧ (decide (n + (↑(sumBy cB (List.take k L)) : Int) + 1 + (a1__heldBindingSLa L k) < 0) = false → (a2__heldBindingSLa
 L k) ∧ (decide (Binding.kind (List.getD L k default) ≠ n + (↑(sumBy cB (List.take k L)) : Int) + 1 + (a1__heldBindingSLa L k)) = true → False ∧ W1c_heldBindingSLa L n (li (-1 :
 Int)) = W1c_heldBindingSLa L n (li (-1 : Int))) ∧ (decide (Binding.kind (List.getD L k default) ≠ n + (↑(sumBy cB (List.take k L)) : Int) + 1 + (a1__heldBindingSLa L k)) = false →
 rng IntKind.i64 (n + (↑(sumBy cB (List.take k L)) : Int) + 1 + (a1__heldBindingSLa L k) + 1) ∧ (a2__heldBindingSLa L k) ∧ (decide (Binding.number (List.getD L k default) ≠ n +
 (↑(sumBy cB (List.take k L)) : Int) + 1 + (a1__heldBindingSLa L k) + 1) = true → False ∧ W1c_heldBindingSLa L n (li (-1 : Int)) = W1c_heldBindingSLa L n (li (-1 : Int))) ∧ (decide
 (Binding.number (List.getD L k default) ≠ n + (↑(sumBy cB (List.take k L)) : Int) + 1 + (a1__heldBindingSLa L k) + 1) = false → rng IntKind.i64 (n + (↑(sumBy cB (List.take k L)) :
 Int) + 1 + (a1__heldBindingSLa L k) + 1 + 1) ∧ rng IntKind.i64 ((↑k : Int) + 1) ∧ List.length L - (k + 1) < List.length L - k ∧ Tc_heldBindingSLa L n (li ((↑k : Int) + 1)) (li (n
 + (↑(sumBy cB (List.take k L)) : Int) + 1 + (a1__heldBindingSLa L k) + 1 + 1)) = Lc_heldBindingSLa L n (k + 1) ∧ Ic_heldBindingSLa L n (List.length L - (k + 1)) (Lc_heldBindingSLa
 L n (k + 1))))))) ∧ (decide ((↑k : Int) < (↑(List.length (List.map bindingC L)) : Int)) = false → True ∧ W0c_heldBindingSLa L n (li (n + (↑(sumBy cB (List.take k L)) : Int))) =
 W0c_heldBindingSLa L n (li (n + (↑(sumBy cB L) : Int))))) := by kernel_rfl
theorem Sc_heldBindingSLa (L : List Binding) (n : Int) (h0 : 0 ≤ n) (h : n + (↑(sumBy cB L) : Int) ≤ 2147483647) (hm : seqM mkB cB L n = L)  : LoopSem Try.prog (loopAt Try.f111 0)
 (Ic_heldBindingSLa L n) (Yc_heldBindingSLa L n) := by
  refine LoopSem.ofHead wide fun k h => ⟨_, _, run_c_heldBindingSLa L n k, ?_⟩
  try delta a1__heldBindingSLa a2__heldBindingSLa
  have g0 := sumBy_takeLe cB L (k + 1)
  have g1 := fun hk : k < L.length => mkB_fix (seqM_get hm hk)
  with_reducible repeat' (first | apply And.intro | exact flatI | exact flatS | exact rowLens | (intro; skip) | apply obsN | apply obsC | apply obA | apply obM | apply obB | apply svA | apply tupA | apply lcA | apply lcS | apply svC | apply liC | apply lbC | apply lsC | apply vIc | apply vBc | apply vSc | apply vLc | apply mapC | apply Hc_heldBindingSLa | apply Ec_heldBindingSLa | apply EW0c_heldBindingSLa | apply EW1c_heldBindingSLa | apply c_markText | apply c_heldIntS)
  all_goals (try simp only [std, stdM] at *)
  all_goals (try (first | with_reducible rfl | omega | assumption | (refine (decide_eq_true ?_).symm; assumption) | (refine (decide_eq_false ?_).symm; assumption) | (refine rowGet ?_; (first | omega | (simp only [std, stdM]; omega) | grind)) | (refine getC ?_ rfl; (first | omega | (simp only [std, stdM]; omega) | grind)) | (refine fill_step ?_ ?_; (first | omega | (simp only [std, stdM]; omega) | grind); (first | rfl | exact (Row.eq _).trans rfl)) | (refine fill_init ?_; (first | rfl | exact (Row.eq _).trans rfl)) | (refine set_row ?_; (simp only [List.length_map, List.length_set, mkTo_len]; omega)) | (refine mkToRow ?_; (first | omega | (simp only [std, stdM]; omega) | grind)) | (refine mkTo_row ?_ rfl; (first | omega | (simp only [std, stdM]; omega) | grind)) | (refine mkTo_step ?_ ?_; (first | omega | (simp only [std, stdM]; omega) | grind); (first | grind [sumBy_step, getD_mem', cB_eq, snocI, snocS, rowSnoc])) | grind [sumBy_step, getD_mem', cB_eq, snocI, snocS, rowSnoc]))
theorem run_c_heldBindingS (L : List Binding) (n : Int) : aexec Try.prog (Option.getD (Func.body Try.f111) Code.skip) (entry [] [ll (List.map bindingC L), li n] 50) [Orc.ghost
 (Ghost.sel [] [0, 1, 5]), Orc.loop (List.length L - 0) (Lc_heldBindingSLa L n 0) (Ic_heldBindingSLa L n) [(True, AEx.exit 0, W0c_heldBindingSLa L n (li (n + (↑(sumBy cB L) :
 Int))), [Orc.fin []]), (False, AEx.ret, W1c_heldBindingSLa L n (li (-1 : Int)), [Orc.fin []])]] (finK Try.prog [ResultVar.tmp 4] [] (AV.sv (li (n + (↑(sumBy cB L) : Int))))) =
 (Tc_heldBindingSLa L n (li 0) (li n) = Lc_heldBindingSLa L n 0 ∧ Ic_heldBindingSLa L n (List.length L - 0) (Lc_heldBindingSLa L n 0) ∧ LoopSem Try.prog (loopAt Try.f111 0)
 (Ic_heldBindingSLa L n) (Yc_heldBindingSLa L n) ∧ (True → ObsEq [] [] ∧ AV.sv (li (n + (↑(sumBy cB L) : Int))) = AV.sv (li (n + (↑(sumBy cB L) : Int)))) ∧ (False → ObsEq [] [] ∧
 AV.sv (li (-1 : Int)) = AV.sv (li (n + (↑(sumBy cB L) : Int)))) ∧ True) := by kernel_rfl
theorem c_heldBindingS (L : List Binding) (n : Int) (h0 : 0 ≤ n) (h : n + sumBy cB L ≤ 2147483647) (hm : seqM mkB cB L n = L)  : P_c_heldBindingS L n := by
  refine CallOK.ofRun wide (run_c_heldBindingS L n) Try.call111 Try.func111 rfl rfl rfl ?_
  have gl := cB_len L
  with_reducible repeat' (first | apply And.intro | exact flatI | exact flatS | exact rowLens | (intro; skip) | apply obsN | apply obsC | apply obA | apply obM | apply obB | apply svA | apply tupA | apply lcA | apply lcS | apply svC | apply liC | apply lbC | apply lsC | apply vIc | apply vBc | apply vSc | apply vLc | apply mapC | apply Hc_heldBindingSLa | apply Ec_heldBindingSLa | apply Sc_heldBindingSLa | apply EW0c_heldBindingSLa | apply EW1c_heldBindingSLa | apply c_markText | apply c_heldIntS)
  all_goals (try simp only [std, stdM] at *)
  all_goals (try (first | with_reducible rfl | omega | assumption | (refine (decide_eq_true ?_).symm; assumption) | (refine (decide_eq_false ?_).symm; assumption) | (refine rowGet ?_; (first | omega | (simp only [std, stdM]; omega) | grind)) | (refine getC ?_ rfl; (first | omega | (simp only [std, stdM]; omega) | grind)) | (refine fill_step ?_ ?_; (first | omega | (simp only [std, stdM]; omega) | grind); (first | rfl | exact (Row.eq _).trans rfl)) | (refine fill_init ?_; (first | rfl | exact (Row.eq _).trans rfl)) | (refine set_row ?_; (simp only [List.length_map, List.length_set, mkTo_len]; omega)) | (refine mkToRow ?_; (first | omega | (simp only [std, stdM]; omega) | grind)) | (refine mkTo_row ?_ rfl; (first | omega | (simp only [std, stdM]; omega) | grind)) | (refine mkTo_step ?_ ?_; (first | omega | (simp only [std, stdM]; omega) | grind); (first | grind [mkTo_all, snocI, snocS, rowSnoc])) | grind [mkTo_all, snocI, snocS, rowSnoc]))
abbrev P_c_heldRulesS (L : List Rules) (n : Int) : Prop := CallOK Try.prog 112 [] [ll (L.map rulesC), li n] [] (.sv (li (n + sumBy cR L)))
def Tc_heldRulesSLa (L : List Rules) (n : Int) (x0 : SV) (x1 : SV) : St := St.mk (regsOf 40 [(0, AV.sv (ll (List.map rulesC L))), (1, AV.sv x1), (5, AV.sv x0)]) [] 0 
def Lc_heldRulesSLa (L : List Rules) (n : Int) (k : Nat) : St := Tc_heldRulesSLa L n (li (↑k : Int)) (li (n + (↑(sumBy cR (List.take k L)) : Int))) 
def Ic_heldRulesSLa (L : List Rules) (n : Int) : Nat → St → Prop := Head (Lc_heldRulesSLa L n) (fun k => k ≤ List.length L ∧ List.length L ≤ 9223372036854775807) fun k =>
 List.length L - k 
def W0c_heldRulesSLa (L : List Rules) (n : Int) (x0 : SV) : St := St.mk (regsOf 40 [(1, AV.sv x0)]) [] 0 
def W1c_heldRulesSLa (L : List Rules) (n : Int) (x0 : SV) : St := St.mk (regsOf 40 [(4, AV.sv x0)]) [] 0 
def Yc_heldRulesSLa (L : List Rules) (n : Int) : List (Prop × AEx × St) := [(True, AEx.exit 0, W0c_heldRulesSLa L n (li (n + (↑(sumBy cR L) : Int)))), (False, AEx.ret,
 W1c_heldRulesSLa L n (li (-1 : Int)))]
theorem Hc_heldRulesSLa {L : List Rules} {n : Int} {k : Nat} {m : Nat} (h : (fun k => k ≤ List.length L ∧ List.length L ≤ 9223372036854775807) k) (hm : (fun k => List.length L - k)
 k = m) : Ic_heldRulesSLa L n m (Lc_heldRulesSLa L n k) := hm ▸ Head.mk h
theorem Ec_heldRulesSLa {L : List Rules} {n : Int} {k : Nat} {x0 : SV} {x1 : SV} (h0 : x0 = (li (↑k : Int))) (h1 : x1 = (li (n + (↑(sumBy cR (List.take k L)) : Int)))) :
 Tc_heldRulesSLa L n x0 x1 = Lc_heldRulesSLa L n k := by
  rw [h0, h1]
  rfl
theorem EW0c_heldRulesSLa {L : List Rules} {n : Int} {x0 y0 : SV} (h0 : x0 = y0) : W0c_heldRulesSLa L n x0 = W0c_heldRulesSLa L n y0 := by rw [h0]
theorem EW1c_heldRulesSLa {L : List Rules} {n : Int} {x0 y0 : SV} (h0 : x0 = y0) : W1c_heldRulesSLa L n x0 = W1c_heldRulesSLa L n y0 := by rw [h0]
abbrev a1__heldRulesSLa (L : List Rules) (k : Nat) := (↑(sumBy cY (Rules.literals (List.getD L k default))) : Int)
abbrev a2__heldRulesSLa (L : List Rules) (k : Nat) := (↑(sumBy cY (Rules.patterns (List.getD L k default))) : Int)
abbrev a3__heldRulesSLa (L : List Rules) (n : Int) (k : Nat) := (li (n + (↑(sumBy cR (List.take k L)) : Int) + (a1__heldRulesSLa L k) + (a2__heldRulesSLa L k) + (↑(sumBy cY
 (Rules.templates (List.getD L k default))) : Int)))
theorem run_c_heldRulesSLa (L : List Rules) (n : Int) (k : Nat) : aexec Try.prog (loopAt Try.f112 0) (Lc_heldRulesSLa L n k) [Orc.br [Orc.cells (rulesF (List.getD L k default)),
 Orc.call [Mode.rd, Mode.rd] [] (AV.sv (li (n + (↑(sumBy cR (List.take k L)) : Int) + (a1__heldRulesSLa L k)))), Orc.br [Orc.ghost (Ghost.sel [] [4]), Orc.out 1] [Orc.cells (rulesF
 (List.getD L k default)), Orc.call [Mode.rd, Mode.rd] [] (AV.sv (li (n + (↑(sumBy cR (List.take k L)) : Int) + (a1__heldRulesSLa L k) + (a2__heldRulesSLa L k)))), Orc.br
 [Orc.ghost (Ghost.sel [] [4]), Orc.out 1] [Orc.cells (rulesF (List.getD L k default)), Orc.call [Mode.rd, Mode.rd] [] (AV.sv (a3__heldRulesSLa L n k)), Orc.br [Orc.ghost
 (Ghost.sel [] [4]), Orc.out 1] [Orc.ghost (Ghost.sel [] [0, 1, 5]), Orc.goto (List.length L - (k + 1)) (Lc_heldRulesSLa L n (k + 1))]]]] [Orc.ghost (Ghost.sel [] [1]), Orc.out 0]]
 (loopK (Ic_heldRulesSLa L n) (Yc_heldRulesSLa L n) (List.length L - k)) = (List.length (List.map rulesC L) ≤ 9223372036854775807 → (decide ((↑k : Int) < (↑(List.length (List.map
 rulesC L)) : Int)) = true → (0 ≤ (↑k : Int) ∧ (List.map rulesC L)[Int.toNat (↑k : Int)]? = some (rulesF (List.getD L k default))) ∧ CallOK Try.prog 194 [] [ll (List.map syntaxC
 (Rules.literals (List.getD L k default))), li (n + (↑(sumBy cR (List.take k L)) : Int))] [] (AV.sv (li (n + (↑(sumBy cR (List.take k L)) : Int) + (a1__heldRulesSLa L k)))) ∧
 (decide (n + (↑(sumBy cR (List.take k L)) : Int) + (a1__heldRulesSLa L k) < 0) = true → False ∧ W1c_heldRulesSLa L n (li (-1 : Int)) = W1c_heldRulesSLa L n (li (-1 : Int))) ∧
 (decide (n + (↑(sumBy cR (List.take k L)) : Int) + (a1__heldRulesSLa L k) < 0) = false → (0 ≤ (↑k : Int) ∧ (List.map rulesC L)[Int.toNat (↑k : Int)]? = some (rulesF (List.getD L k
 default))) ∧ CallOK Try.prog 194 [] [ll (List.map syntaxC (Rules.patterns (List.getD L k default))), li (n + (↑(sumBy cR (List.take k L)) : Int) + (a1__heldRulesSLa L k))] []
 (AV.sv (li (n + (↑(sumBy cR (List.take k L)) : Int) + (a1__heldRulesSLa L k) + (a2__heldRulesSLa L k)))) ∧ (decide (n + (↑(sumBy cR (List.take k L)) : Int) + (a1__heldRulesSLa L
 k) + (a2__heldRulesSLa L k) < 0) = true → False ∧ W1c_heldRulesSLa L n (li (-1 : Int)) = W1c_heldRulesSLa L n (li (-1 : Int))) ∧ (decide (n + (↑(sumBy cR (List.take k L)) : Int) +
 (a1__heldRulesSLa L k) + (a2__heldRulesSLa L k) < 0) = false → (0 ≤ (↑k : Int) ∧ (List.map rulesC L)[Int.toNat (↑k : Int)]? = some (rulesF (List.getD L k default))) ∧ CallOK
 Try.prog 194 [] [ll (List.map syntaxC (Rules.templates (List.getD L k default))), li (n + (↑(sumBy cR (List.take k L)) : Int) + (a1__heldRulesSLa L k) + (a2__heldRulesSLa L k))]
 [] (AV.sv (a3__heldRulesSLa L n k)) ∧ (decide (n + (↑(sumBy cR (List.take k L)) : Int) + (a1__heldRulesSLa L k) + (a2__heldRulesSLa L k) + (↑(sumBy cY (Rules.templates (List.getD
 L k default))) : Int) < 0) = true → False ∧ W1c_heldRulesSLa L n (li (-1 : Int)) = W1c_heldRulesSLa L n (li (-1 : Int))) ∧ (decide (n + (↑(sumBy cR (List.take k L)) : Int) +
 (a1__heldRulesSLa L k) + (a2__heldRulesSLa L k) + (↑(sumBy cY (Rules.templates (List.getD L k default))) : Int) < 0) = false → rng IntKind.i64 ((↑k : Int) + 1) ∧ List.length L -
 (k + 1) < List.length L - k ∧ Tc_heldRulesSLa L n (li ((↑k : Int) + 1)) (a3__heldRulesSLa L n k) = Lc_heldRulesSLa L n (k + 1) ∧ Ic_heldRulesSLa L n (List.length L - (k + 1))
 (Lc_heldRulesSLa L n (k + 1)))))) ∧ (decide ((↑k : Int) < (↑(List.length (List.map rulesC L)) : Int)) = false → True ∧ W0c_heldRulesSLa L n (li (n + (↑(sumBy cR (List.take k L)) :
 Int))) = W0c_heldRulesSLa L n (li (n + (↑(sumBy cR L) : Int))))) := by kernel_rfl
theorem Sc_heldRulesSLa (L : List Rules) (n : Int) (h0 : 0 ≤ n) (h : n + (↑(sumBy cR L) : Int) ≤ 2147483647) (h2 : List.length L ≤ 2147483647) (hm : seqM mkR cR L n = L)  : LoopSem
 Try.prog (loopAt Try.f112 0) (Ic_heldRulesSLa L n) (Yc_heldRulesSLa L n) := by
  refine LoopSem.ofHead wide fun k h => ⟨_, _, run_c_heldRulesSLa L n k, ?_⟩
  try delta a1__heldRulesSLa a2__heldRulesSLa a3__heldRulesSLa
  have g0 := sumBy_takeLe cR L (k + 1)
  have g1 := fun hk : k < L.length => mkR_fix (seqM_get hm hk)
  with_reducible repeat' (first | apply And.intro | exact flatI | exact flatS | exact rowLens | (intro; skip) | apply obsN | apply obsC | apply obA | apply obM | apply obB | apply svA | apply tupA | apply lcA | apply lcS | apply svC | apply liC | apply lbC | apply lsC | apply vIc | apply vBc | apply vSc | apply vLc | apply mapC | apply Hc_heldRulesSLa | apply Ec_heldRulesSLa | apply EW0c_heldRulesSLa | apply EW1c_heldRulesSLa | apply c_heldSyntaxS | apply c_heldSyntaxSL)
  all_goals (try simp only [std, stdM] at *)
  all_goals (try (first | with_reducible rfl | omega | assumption | (refine (decide_eq_true ?_).symm; assumption) | (refine (decide_eq_false ?_).symm; assumption) | (refine rowGet ?_; (first | omega | (simp only [std, stdM]; omega) | grind)) | (refine getC ?_ rfl; (first | omega | (simp only [std, stdM]; omega) | grind)) | (refine fill_step ?_ ?_; (first | omega | (simp only [std, stdM]; omega) | grind); (first | rfl | exact (Row.eq _).trans rfl)) | (refine fill_init ?_; (first | rfl | exact (Row.eq _).trans rfl)) | (refine set_row ?_; (simp only [List.length_map, List.length_set, mkTo_len]; omega)) | (refine mkToRow ?_; (first | omega | (simp only [std, stdM]; omega) | grind)) | (refine mkTo_row ?_ rfl; (first | omega | (simp only [std, stdM]; omega) | grind)) | (refine mkTo_step ?_ ?_; (first | omega | (simp only [std, stdM]; omega) | grind); (first | grind [sumBy_step, getD_mem', cR_eq, snocI, snocS, rowSnoc])) | grind [sumBy_step, getD_mem', cR_eq, snocI, snocS, rowSnoc]))
theorem run_c_heldRulesS (L : List Rules) (n : Int) : aexec Try.prog (Option.getD (Func.body Try.f112) Code.skip) (entry [] [ll (List.map rulesC L), li n] 40) [Orc.ghost (Ghost.sel
 [] [0, 1, 5]), Orc.loop (List.length L - 0) (Lc_heldRulesSLa L n 0) (Ic_heldRulesSLa L n) [(True, AEx.exit 0, W0c_heldRulesSLa L n (li (n + (↑(sumBy cR L) : Int))), [Orc.fin []]),
 (False, AEx.ret, W1c_heldRulesSLa L n (li (-1 : Int)), [Orc.fin []])]] (finK Try.prog [ResultVar.tmp 4] [] (AV.sv (li (n + (↑(sumBy cR L) : Int))))) = (Tc_heldRulesSLa L n (li 0)
 (li n) = Lc_heldRulesSLa L n 0 ∧ Ic_heldRulesSLa L n (List.length L - 0) (Lc_heldRulesSLa L n 0) ∧ LoopSem Try.prog (loopAt Try.f112 0) (Ic_heldRulesSLa L n) (Yc_heldRulesSLa L n)
 ∧ (True → ObsEq [] [] ∧ AV.sv (li (n + (↑(sumBy cR L) : Int))) = AV.sv (li (n + (↑(sumBy cR L) : Int)))) ∧ (False → ObsEq [] [] ∧ AV.sv (li (-1 : Int)) = AV.sv (li (n + (↑(sumBy
 cR L) : Int)))) ∧ True) := by kernel_rfl
theorem c_heldRulesS (L : List Rules) (n : Int) (h0 : 0 ≤ n) (h : n + sumBy cR L ≤ 2147483647) (h2 : L.length ≤ 2147483647) (hm : seqM mkR cR L n = L)  : P_c_heldRulesS L n := by
  refine CallOK.ofRun wide (run_c_heldRulesS L n) Try.call112 Try.func112 rfl rfl rfl ?_
  with_reducible repeat' (first | apply And.intro | exact flatI | exact flatS | exact rowLens | (intro; skip) | apply obsN | apply obsC | apply obA | apply obM | apply obB | apply svA | apply tupA | apply lcA | apply lcS | apply svC | apply liC | apply lbC | apply lsC | apply vIc | apply vBc | apply vSc | apply vLc | apply mapC | apply Hc_heldRulesSLa | apply Ec_heldRulesSLa | apply Sc_heldRulesSLa | apply EW0c_heldRulesSLa | apply EW1c_heldRulesSLa | apply c_heldSyntaxS | apply c_heldSyntaxSL)
  all_goals (try simp only [std, stdM] at *)
  all_goals (try (first | with_reducible rfl | omega | assumption | (refine (decide_eq_true ?_).symm; assumption) | (refine (decide_eq_false ?_).symm; assumption) | (refine rowGet ?_; (first | omega | (simp only [std, stdM]; omega) | grind)) | (refine getC ?_ rfl; (first | omega | (simp only [std, stdM]; omega) | grind)) | (refine fill_step ?_ ?_; (first | omega | (simp only [std, stdM]; omega) | grind); (first | rfl | exact (Row.eq _).trans rfl)) | (refine fill_init ?_; (first | rfl | exact (Row.eq _).trans rfl)) | (refine set_row ?_; (simp only [List.length_map, List.length_set, mkTo_len]; omega)) | (refine mkToRow ?_; (first | omega | (simp only [std, stdM]; omega) | grind)) | (refine mkTo_row ?_ rfl; (first | omega | (simp only [std, stdM]; omega) | grind)) | (refine mkTo_step ?_ ?_; (first | omega | (simp only [std, stdM]; omega) | grind); (first | grind [mkTo_all, snocI, snocS, rowSnoc])) | grind [mkTo_all, snocI, snocS, rowSnoc]))
abbrev P_c_heldExpander (x : Expander) (n : Int) : Prop := CallOK Try.prog 23 [] [.agg [vL (x.bindings.map bindingC), vL (x.macros.map rulesC), vI x.scope, vI x.vari, vI x.steps], li n] [] (.sv (li (n + sumBy cB x.bindings + sumBy cR x.macros)))
theorem run_c_heldExpander (x : Expander) (n : Int) : aexec Try.prog (Option.getD (Func.body Try.f23) Code.skip) (entry [] [SV.agg [vL (List.map bindingC (Expander.bindings x)), vL
 (List.map rulesC (Expander.macros x)), vI (Expander.scope x), vI (Expander.vari x), vI (Expander.steps x)], li n] 18) [Orc.call [Mode.rd, Mode.rd] [] (AV.sv (li (n + (↑(sumBy cB
 (Expander.bindings x)) : Int)))), Orc.br [Orc.fin []] [Orc.call [Mode.rd, Mode.rd] [] (AV.sv (li (n + (↑(sumBy cB (Expander.bindings x)) : Int) + (↑(sumBy cR (Expander.macros x))
 : Int)))), Orc.br [Orc.fin []] [Orc.fin []]]] (finK Try.prog [ResultVar.tmp 4] [] (AV.sv (li (n + (↑(sumBy cB (Expander.bindings x)) : Int) + (↑(sumBy cR (Expander.macros x)) :
 Int))))) = (P_c_heldBindingS (Expander.bindings x) n ∧ (decide (n + (↑(sumBy cB (Expander.bindings x)) : Int) < 0) = true → ObsEq [] [] ∧ AV.sv (li (-1 : Int)) = AV.sv (li (n +
 (↑(sumBy cB (Expander.bindings x)) : Int) + (↑(sumBy cR (Expander.macros x)) : Int)))) ∧ (decide (n + (↑(sumBy cB (Expander.bindings x)) : Int) < 0) = false → P_c_heldRulesS
 (Expander.macros x) (n + (↑(sumBy cB (Expander.bindings x)) : Int)) ∧ (decide (n + (↑(sumBy cB (Expander.bindings x)) : Int) + (↑(sumBy cR (Expander.macros x)) : Int) < 0) = true
 → ObsEq [] [] ∧ AV.sv (li (-1 : Int)) = AV.sv (li (n + (↑(sumBy cB (Expander.bindings x)) : Int) + (↑(sumBy cR (Expander.macros x)) : Int)))) ∧ (decide (n + (↑(sumBy cB
 (Expander.bindings x)) : Int) + (↑(sumBy cR (Expander.macros x)) : Int) < 0) = false → ObsEq [] [] ∧ AV.sv (li (n + (↑(sumBy cB (Expander.bindings x)) : Int) + (↑(sumBy cR
 (Expander.macros x)) : Int))) = AV.sv (li (n + (↑(sumBy cB (Expander.bindings x)) : Int) + (↑(sumBy cR (Expander.macros x)) : Int)))))) := by kernel_rfl
theorem c_heldExpander (x : Expander) (n : Int) (h0 : 0 ≤ n) (h : n + (sumBy cB x.bindings + sumBy cR x.macros : Nat) ≤ 2147483647) (h21 : x.macros.length ≤ 2147483647) (hm0 : seqM
 mkB cB x.bindings (n) = x.bindings) (hm1 : seqM mkR cR x.macros (n + sumBy cB x.bindings) = x.macros)  : P_c_heldExpander x n := by
  refine CallOK.ofRun wide (run_c_heldExpander x n) Try.call23 Try.func23 rfl rfl rfl ?_
  with_reducible repeat' (first | apply And.intro | exact flatI | exact flatS | exact rowLens | (intro; skip) | apply obsN | apply obsC | apply obA | apply obM | apply obB | apply svA | apply tupA | apply lcA | apply lcS | apply svC | apply liC | apply lbC | apply lsC | apply vIc | apply vBc | apply vSc | apply vLc | apply mapC | apply c_heldBindingS | apply c_heldRulesS)
  all_goals (try simp only [std, stdM] at *)
  all_goals (try (first | with_reducible rfl | omega | assumption | (refine (decide_eq_true ?_).symm; assumption) | (refine (decide_eq_false ?_).symm; assumption) | (refine rowGet ?_; (first | omega | (simp only [std, stdM]; omega) | grind)) | (refine getC ?_ rfl; (first | omega | (simp only [std, stdM]; omega) | grind)) | (refine fill_step ?_ ?_; (first | omega | (simp only [std, stdM]; omega) | grind); (first | rfl | exact (Row.eq _).trans rfl)) | (refine fill_init ?_; (first | rfl | exact (Row.eq _).trans rfl)) | (refine set_row ?_; (simp only [List.length_map, List.length_set, mkTo_len]; omega)) | (refine mkToRow ?_; (first | omega | (simp only [std, stdM]; omega) | grind)) | (refine mkTo_row ?_ rfl; (first | omega | (simp only [std, stdM]; omega) | grind)) | (refine mkTo_step ?_ ?_; (first | omega | (simp only [std, stdM]; omega) | grind); (first | grind [snocI, snocS, rowSnoc])) | grind [snocI, snocS, rowSnoc]))
end Go.Proofs.Ytehpjofddjmbpaa
end
section
namespace Go.Proofs.Ytehpjofddjmbpaa
open Go Go.Proofs.Ytehpjofddjmbpaa.Ab
set_option linter.unusedVariables false
set_option linter.unusedSimpArgs false
set_option maxHeartbeats 4000000
abbrev P_c_eqIntS (A : List Int) (B : List Int) : Prop := CallOK Try.prog 28 [] [ll (A.map intC), ll (B.map intC)] [] (.sv (lb (decide (A = B))))
def Tc_eqIntSLa (A : List Int) (B : List Int) (x0 : SV) : St := St.mk (regsOf 26 [(0, AV.sv (ll (List.map intC A))), (1, AV.sv (ll (List.map intC B))), (5, AV.sv x0)]) [] 0 
def Lc_eqIntSLa (A : List Int) (B : List Int) (k : Nat) : St := Tc_eqIntSLa A B (li (↑k : Int)) 
def Ic_eqIntSLa (A : List Int) (B : List Int) : Nat → St → Prop := Head (Lc_eqIntSLa A B) (fun k => k ≤ List.length A ∧ List.length A ≤ 9223372036854775807 ∧ List.length A =
 List.length B ∧ List.take k A = List.take k B) fun k => List.length A - k 
def W0c_eqIntSLa (A : List Int) (B : List Int) : St := St.mk (regsOf 26 []) [] 0 
def W1c_eqIntSLa (A : List Int) (B : List Int) (x0 : SV) : St := St.mk (regsOf 26 [(4, AV.sv x0)]) [] 0 
def Yc_eqIntSLa (A : List Int) (B : List Int) : List (Prop × AEx × St) := [(A = B, AEx.exit 0, W0c_eqIntSLa A B), (A ≠ B, AEx.ret, W1c_eqIntSLa A B (lb false))]
theorem Hc_eqIntSLa {A : List Int} {B : List Int} {k : Nat} {m : Nat} (h : (fun k => k ≤ List.length A ∧ List.length A ≤ 9223372036854775807 ∧ List.length A = List.length B ∧
 List.take k A = List.take k B) k) (hm : (fun k => List.length A - k) k = m) : Ic_eqIntSLa A B m (Lc_eqIntSLa A B k) := hm ▸ Head.mk h
theorem Ec_eqIntSLa {A : List Int} {B : List Int} {k : Nat} {x0 : SV} (h0 : x0 = (li (↑k : Int))) : Tc_eqIntSLa A B x0 = Lc_eqIntSLa A B k := by
  rw [h0]
  rfl
theorem EW1c_eqIntSLa {A : List Int} {B : List Int} {x0 y0 : SV} (h0 : x0 = y0) : W1c_eqIntSLa A B x0 = W1c_eqIntSLa A B y0 := by rw [h0]
theorem run_c_eqIntSLa (A : List Int) (B : List Int) (k : Nat) : aexec Try.prog (loopAt Try.f28 0) (Lc_eqIntSLa A B k) [Orc.br [Orc.draw [], Orc.cells (intC (List.getD A k
 default)), Orc.cells (intC (List.getD B k default)), Orc.br [Orc.ghost (Ghost.sel [] [4]), Orc.out 1] [Orc.ghost (Ghost.sel [] [0, 1, 5]), Orc.goto (List.length A - (k + 1))
 (Lc_eqIntSLa A B (k + 1))]] [Orc.ghost (Ghost.sel [] []), Orc.out 0]] (loopK (Ic_eqIntSLa A B) (Yc_eqIntSLa A B) (List.length A - k)) = (List.length (List.map intC A) ≤
 9223372036854775807 → (decide ((↑k : Int) < (↑(List.length (List.map intC A)) : Int)) = true → (0 ≤ (↑k : Int) ∧ (List.map intC A)[Int.toNat (↑k : Int)]? = some [cI (List.getD A k
 0)]) ∧ (0 ≤ (↑k : Int) ∧ (List.map intC B)[Int.toNat (↑k : Int)]? = some [cI (List.getD B k 0)]) ∧ (decide (List.getD A k (0 : Int) ≠ List.getD B k 0) = true → A ≠ B ∧
 W1c_eqIntSLa A B (lb false) = W1c_eqIntSLa A B (lb false)) ∧ (decide (List.getD A k (0 : Int) ≠ List.getD B k 0) = false → rng IntKind.i64 ((↑k : Int) + 1) ∧ List.length A - (k +
 1) < List.length A - k ∧ Tc_eqIntSLa A B (li ((↑k : Int) + 1)) = Lc_eqIntSLa A B (k + 1) ∧ Ic_eqIntSLa A B (List.length A - (k + 1)) (Lc_eqIntSLa A B (k + 1)))) ∧ (decide ((↑k :
 Int) < (↑(List.length (List.map intC A)) : Int)) = false → A = B ∧ W0c_eqIntSLa A B = W0c_eqIntSLa A B)) := by kernel_rfl
theorem Sc_eqIntSLa (A : List Int) (B : List Int)  : LoopSem Try.prog (loopAt Try.f28 0) (Ic_eqIntSLa A B) (Yc_eqIntSLa A B) := by
  refine LoopSem.ofHead wide fun k h => ⟨_, _, run_c_eqIntSLa A B k, ?_⟩
  with_reducible repeat' (first | apply And.intro | exact flatI | exact flatS | exact rowLens | (intro; skip) | apply obsN | apply obsC | apply obA | apply obM | apply obB | apply svA | apply tupA | apply lcA | apply lcS | apply svC | apply liC | apply lbC | apply lsC | apply vIc | apply vBc | apply vSc | apply vLc | apply mapC | apply Hc_eqIntSLa | apply Ec_eqIntSLa | apply EW1c_eqIntSLa)
  all_goals (try simp only [std] at *)
  all_goals (try (first | with_reducible rfl | omega | assumption | (refine (decide_eq_true ?_).symm; assumption) | (refine (decide_eq_false ?_).symm; assumption) | (refine rowGet ?_; (first | omega | (simp only [std]; omega) | grind)) | (refine getC ?_ rfl; (first | omega | (simp only [std]; omega) | grind)) | (refine fill_step ?_ ?_; (first | omega | (simp only [std]; omega) | grind); (first | rfl | exact (Row.eq _).trans rfl)) | (refine fill_init ?_; (first | rfl | exact (Row.eq _).trans rfl)) | grind [take_eq, snocI, snocS, rowSnoc]))
theorem run_c_eqIntS (A : List Int) (B : List Int) : aexec Try.prog (Option.getD (Func.body Try.f28) Code.skip) (entry [] [ll (List.map intC A), ll (List.map intC B)] 26) [Orc.br
 [Orc.fin []] [Orc.ghost (Ghost.sel [] [0, 1, 5]), Orc.loop (List.length A - 0) (Lc_eqIntSLa A B 0) (Ic_eqIntSLa A B) [(A = B, AEx.exit 0, W0c_eqIntSLa A B, [Orc.fin []]), (A ≠ B,
 AEx.ret, W1c_eqIntSLa A B (lb false), [Orc.fin []])]]] (finK Try.prog [ResultVar.tmp 4] [] (AV.sv (lb (decide (A = B))))) = (List.length (List.map intC A) ≤ 9223372036854775807 →
 List.length (List.map intC B) ≤ 9223372036854775807 → (decide ((↑(List.length (List.map intC A)) : Int) ≠ (↑(List.length (List.map intC B)) : Int)) = true → ObsEq [] [] ∧ AV.sv
 (lb false) = AV.sv (lb (decide (A = B)))) ∧ (decide ((↑(List.length (List.map intC A)) : Int) ≠ (↑(List.length (List.map intC B)) : Int)) = false → Tc_eqIntSLa A B (li 0) =
 Lc_eqIntSLa A B 0 ∧ Ic_eqIntSLa A B (List.length A - 0) (Lc_eqIntSLa A B 0) ∧ LoopSem Try.prog (loopAt Try.f28 0) (Ic_eqIntSLa A B) (Yc_eqIntSLa A B) ∧ (A = B → ObsEq [] [] ∧
 AV.sv (lb true) = AV.sv (lb (decide (A = B)))) ∧ ((A = B → False) → ObsEq [] [] ∧ AV.sv (lb false) = AV.sv (lb (decide (A = B)))) ∧ True)) := by kernel_rfl
theorem c_eqIntS (A B : List Int)  : P_c_eqIntS A B := by
  refine CallOK.ofRun wide (run_c_eqIntS A B) Try.call28 Try.func28 rfl rfl rfl ?_
  with_reducible repeat' (first | apply And.intro | exact flatI | exact flatS | exact rowLens | (intro; skip) | apply obsN | apply obsC | apply obA | apply obM | apply obB | apply svA | apply tupA | apply lcA | apply lcS | apply svC | apply liC | apply lbC | apply lsC | apply vIc | apply vBc | apply vSc | apply vLc | apply mapC | apply Hc_eqIntSLa | apply Ec_eqIntSLa | apply Sc_eqIntSLa | apply EW1c_eqIntSLa)
  all_goals (try simp only [std] at *)
  all_goals (try (first | with_reducible rfl | omega | assumption | (refine (decide_eq_true ?_).symm; assumption) | (refine (decide_eq_false ?_).symm; assumption) | (refine rowGet ?_; (first | omega | (simp only [std]; omega) | grind)) | (refine getC ?_ rfl; (first | omega | (simp only [std]; omega) | grind)) | (refine fill_step ?_ ?_; (first | omega | (simp only [std]; omega) | grind); (first | rfl | exact (Row.eq _).trans rfl)) | (refine fill_init ?_; (first | rfl | exact (Row.eq _).trans rfl)) | grind [snocI, snocS, rowSnoc]))
abbrev P_c_eqSyntaxS (A : List Syntax) (B : List Syntax) : Prop := CallOK Try.prog 88 [] [ll (A.map syntaxC), ll (B.map syntaxC)] [] (.sv (lb (decide (A = B))))
abbrev P_c_eqSyntax (x : Syntax) (y : Syntax) : Prop := CallOK Try.prog 57 [] [syntaxA x, syntaxA y] [] (.sv (lb (decide (x = y))))
def Tc_eqSyntaxSLa (A : List Syntax) (B : List Syntax) (x0 : SV) : St := St.mk (regsOf 27 [(0, AV.sv (ll (List.map syntaxC A))), (1, AV.sv (ll (List.map syntaxC B))), (5, AV.sv
 x0)]) [] 0 
def Lc_eqSyntaxSLa (A : List Syntax) (B : List Syntax) (k : Nat) : St := Tc_eqSyntaxSLa A B (li (↑k : Int)) 
def Ic_eqSyntaxSLa (A : List Syntax) (B : List Syntax) : Nat → St → Prop := Head (Lc_eqSyntaxSLa A B) (fun k => k ≤ List.length A ∧ List.length A ≤ 9223372036854775807 ∧
 List.length A = List.length B ∧ List.take k A = List.take k B) fun k => List.length A - k 
def W0c_eqSyntaxSLa (A : List Syntax) (B : List Syntax) : St := St.mk (regsOf 27 []) [] 0 
def W1c_eqSyntaxSLa (A : List Syntax) (B : List Syntax) (x0 : SV) : St := St.mk (regsOf 27 [(4, AV.sv x0)]) [] 0 
def Yc_eqSyntaxSLa (A : List Syntax) (B : List Syntax) : List (Prop × AEx × St) := [(A = B, AEx.exit 0, W0c_eqSyntaxSLa A B), (A ≠ B, AEx.ret, W1c_eqSyntaxSLa A B (lb false))]
theorem Hc_eqSyntaxSLa {A : List Syntax} {B : List Syntax} {k : Nat} {m : Nat} (h : (fun k => k ≤ List.length A ∧ List.length A ≤ 9223372036854775807 ∧ List.length A = List.length
 B ∧ List.take k A = List.take k B) k) (hm : (fun k => List.length A - k) k = m) : Ic_eqSyntaxSLa A B m (Lc_eqSyntaxSLa A B k) := hm ▸ Head.mk h
theorem Ec_eqSyntaxSLa {A : List Syntax} {B : List Syntax} {k : Nat} {x0 : SV} (h0 : x0 = (li (↑k : Int))) : Tc_eqSyntaxSLa A B x0 = Lc_eqSyntaxSLa A B k := by
  rw [h0]
  rfl
theorem EW1c_eqSyntaxSLa {A : List Syntax} {B : List Syntax} {x0 y0 : SV} (h0 : x0 = y0) : W1c_eqSyntaxSLa A B x0 = W1c_eqSyntaxSLa A B y0 := by rw [h0]
theorem run_c_eqSyntaxSLa (A : List Syntax) (B : List Syntax) (k : Nat) : aexec Try.prog (loopAt Try.f88 0) (Lc_eqSyntaxSLa A B k) [Orc.br [Orc.draw [], Orc.cells (syntaxF
 (List.getD A k default)), Orc.cells (syntaxF (List.getD B k default)), Orc.call [Mode.rd, Mode.rd] [] (AV.sv (lb (decide (List.getD A k default = List.getD B k default)))), Orc.br
 [Orc.ghost (Ghost.sel [] [4]), Orc.out 1] [Orc.ghost (Ghost.sel [] [0, 1, 5]), Orc.goto (List.length A - (k + 1)) (Lc_eqSyntaxSLa A B (k + 1))]] [Orc.ghost (Ghost.sel [] []),
 Orc.out 0]] (loopK (Ic_eqSyntaxSLa A B) (Yc_eqSyntaxSLa A B) (List.length A - k)) = (List.length (List.map syntaxC A) ≤ 9223372036854775807 → (decide ((↑k : Int) < (↑(List.length
 (List.map syntaxC A)) : Int)) = true → (0 ≤ (↑k : Int) ∧ (List.map syntaxC A)[Int.toNat (↑k : Int)]? = some (syntaxF (List.getD A k default))) ∧ (0 ≤ (↑k : Int) ∧ (List.map
 syntaxC B)[Int.toNat (↑k : Int)]? = some (syntaxF (List.getD B k default))) ∧ P_c_eqSyntax (List.getD A k default) (List.getD B k default) ∧ ((!decide (List.getD A k default =
 List.getD B k default)) = true → A ≠ B ∧ W1c_eqSyntaxSLa A B (lb false) = W1c_eqSyntaxSLa A B (lb false)) ∧ ((!decide (List.getD A k default = List.getD B k default)) = false →
 rng IntKind.i64 ((↑k : Int) + 1) ∧ List.length A - (k + 1) < List.length A - k ∧ Tc_eqSyntaxSLa A B (li ((↑k : Int) + 1)) = Lc_eqSyntaxSLa A B (k + 1) ∧ Ic_eqSyntaxSLa A B
 (List.length A - (k + 1)) (Lc_eqSyntaxSLa A B (k + 1)))) ∧ (decide ((↑k : Int) < (↑(List.length (List.map syntaxC A)) : Int)) = false → A = B ∧ W0c_eqSyntaxSLa A B =
 W0c_eqSyntaxSLa A B)) := by kernel_rfl
theorem Sc_eqSyntaxSLa (A : List Syntax) (B : List Syntax) (ih : ∀ (x : Syntax), x ∈ A → ∀ (y : Syntax), P_c_eqSyntax x y)  : LoopSem Try.prog (loopAt Try.f88 0) (Ic_eqSyntaxSLa A
 B) (Yc_eqSyntaxSLa A B) := by
  refine LoopSem.ofHead wide fun k h => ⟨_, _, run_c_eqSyntaxSLa A B k, ?_⟩
  with_reducible repeat' (first | apply And.intro | exact flatI | exact flatS | exact rowLens | exact ih | (intro; skip) | apply obsN | apply obsC | apply obA | apply obM | apply obB | apply svA | apply tupA | apply lcA | apply lcS | apply svC | apply liC | apply lbC | apply lsC | apply vIc | apply vBc | apply vSc | apply vLc | apply mapC | apply Hc_eqSyntaxSLa | apply Ec_eqSyntaxSLa | apply EW1c_eqSyntaxSLa | apply ih)
  all_goals (try simp only [std] at *)
  all_goals (try (first | with_reducible rfl | omega | assumption | (refine (decide_eq_true ?_).symm; assumption) | (refine (decide_eq_false ?_).symm; assumption) | (refine rowGet ?_; (first | omega | (simp only [std]; omega) | grind)) | (refine getC ?_ rfl; (first | omega | (simp only [std]; omega) | grind)) | (refine fill_step ?_ ?_; (first | omega | (simp only [std]; omega) | grind); (first | rfl | exact (Row.eq _).trans rfl)) | (refine fill_init ?_; (first | rfl | exact (Row.eq _).trans rfl)) | grind [take_eq, getD_mem', snocI, snocS, rowSnoc]))
theorem run_c_eqSyntaxS (A : List Syntax) (B : List Syntax) : aexec Try.prog (Option.getD (Func.body Try.f88) Code.skip) (entry [] [ll (List.map syntaxC A), ll (List.map syntaxC
 B)] 27) [Orc.br [Orc.fin []] [Orc.ghost (Ghost.sel [] [0, 1, 5]), Orc.loop (List.length A - 0) (Lc_eqSyntaxSLa A B 0) (Ic_eqSyntaxSLa A B) [(A = B, AEx.exit 0, W0c_eqSyntaxSLa A
 B, [Orc.fin []]), (A ≠ B, AEx.ret, W1c_eqSyntaxSLa A B (lb false), [Orc.fin []])]]] (finK Try.prog [ResultVar.tmp 4] [] (AV.sv (lb (decide (A = B))))) = (List.length (List.map
 syntaxC A) ≤ 9223372036854775807 → List.length (List.map syntaxC B) ≤ 9223372036854775807 → (decide ((↑(List.length (List.map syntaxC A)) : Int) ≠ (↑(List.length (List.map syntaxC
 B)) : Int)) = true → ObsEq [] [] ∧ AV.sv (lb false) = AV.sv (lb (decide (A = B)))) ∧ (decide ((↑(List.length (List.map syntaxC A)) : Int) ≠ (↑(List.length (List.map syntaxC B)) :
 Int)) = false → Tc_eqSyntaxSLa A B (li 0) = Lc_eqSyntaxSLa A B 0 ∧ Ic_eqSyntaxSLa A B (List.length A - 0) (Lc_eqSyntaxSLa A B 0) ∧ LoopSem Try.prog (loopAt Try.f88 0)
 (Ic_eqSyntaxSLa A B) (Yc_eqSyntaxSLa A B) ∧ (A = B → ObsEq [] [] ∧ AV.sv (lb true) = AV.sv (lb (decide (A = B)))) ∧ ((A = B → False) → ObsEq [] [] ∧ AV.sv (lb false) = AV.sv (lb
 (decide (A = B)))) ∧ True)) := by kernel_rfl
theorem c_eqSyntaxS (A B : List Syntax) (ih : ∀ x ∈ A, ∀ (y : Syntax), P_c_eqSyntax x y)  : P_c_eqSyntaxS A B := by
  refine CallOK.ofRun wide (run_c_eqSyntaxS A B) Try.call88 Try.func88 rfl rfl rfl ?_
  with_reducible repeat' (first | apply And.intro | exact flatI | exact flatS | exact rowLens | exact ih | (intro; skip) | apply obsN | apply obsC | apply obA | apply obM | apply obB | apply svA | apply tupA | apply lcA | apply lcS | apply svC | apply liC | apply lbC | apply lsC | apply vIc | apply vBc | apply vSc | apply vLc | apply mapC | apply Hc_eqSyntaxSLa | apply Ec_eqSyntaxSLa | apply Sc_eqSyntaxSLa | apply EW1c_eqSyntaxSLa)
  all_goals (try simp only [std] at *)
  all_goals (try (first | with_reducible rfl | omega | assumption | (refine (decide_eq_true ?_).symm; assumption) | (refine (decide_eq_false ?_).symm; assumption) | (refine rowGet ?_; (first | omega | (simp only [std]; omega) | grind)) | (refine getC ?_ rfl; (first | omega | (simp only [std]; omega) | grind)) | (refine fill_step ?_ ?_; (first | omega | (simp only [std]; omega) | grind); (first | rfl | exact (Row.eq _).trans rfl)) | (refine fill_init ?_; (first | rfl | exact (Row.eq _).trans rfl)) | grind [snocI, snocS, rowSnoc]))
theorem run_c_eqSyntax_s (x : Syntax) (y : Syntax) : aexec Try.prog (Option.getD (Func.body Try.f57) Code.skip) (entry [] [syntaxA x, syntaxA y] 32) [Orc.br [Orc.fin []] [Orc.br
 [Orc.fin []] [Orc.br [Orc.fin []] [Orc.call [Mode.rd, Mode.rd] [] (AV.sv (lb (decide (Syntax.scopes x = Syntax.scopes y)))), Orc.br [Orc.fin []] [Orc.call [Mode.rd, Mode.rd] []
 (AV.sv (lb (decide (Syntax.items x = Syntax.items y)))), Orc.br [Orc.fin []] [Orc.fin []]]]]]] (finK Try.prog [ResultVar.tmp 4] [] (AV.sv (lb (decide (x = y))))) = ((decide
 (Syntax.kind x ≠ Syntax.kind y) = true → ObsEq [] [] ∧ AV.sv (lb false) = AV.sv (lb (decide (x = y)))) ∧ (decide (Syntax.kind x ≠ Syntax.kind y) = false → (decide (Syntax.number x
 ≠ Syntax.number y) = true → ObsEq [] [] ∧ AV.sv (lb false) = AV.sv (lb (decide (x = y)))) ∧ (decide (Syntax.number x ≠ Syntax.number y) = false → (decide (Array.toList
 (ByteArray.data (Syntax.text x)) ≠ Array.toList (ByteArray.data (Syntax.text y))) = true → ObsEq [] [] ∧ AV.sv (lb false) = AV.sv (lb (decide (x = y)))) ∧ (decide (Array.toList
 (ByteArray.data (Syntax.text x)) ≠ Array.toList (ByteArray.data (Syntax.text y))) = false → P_c_eqIntS (Syntax.scopes x) (Syntax.scopes y) ∧ ((!decide (Syntax.scopes x =
 Syntax.scopes y)) = true → ObsEq [] [] ∧ AV.sv (lb false) = AV.sv (lb (decide (x = y)))) ∧ ((!decide (Syntax.scopes x = Syntax.scopes y)) = false → P_c_eqSyntaxS (Syntax.items x)
 (Syntax.items y) ∧ ((!decide (Syntax.items x = Syntax.items y)) = true → ObsEq [] [] ∧ AV.sv (lb false) = AV.sv (lb (decide (x = y)))) ∧ ((!decide (Syntax.items x = Syntax.items
 y)) = false → ObsEq [] [] ∧ AV.sv (lb true) = AV.sv (lb (decide (x = y))))))))) := by kernel_rfl
theorem c_eqSyntax_s (x y : Syntax) (ih : ∀ z ∈ x.items, ∀ (y : Syntax), P_c_eqSyntax z y)  : P_c_eqSyntax x y := by
  refine CallOK.ofRun wide (run_c_eqSyntax_s x y) Try.call57 Try.func57 rfl rfl rfl ?_
  simp only [syntaxExt]
  with_reducible repeat' (first | apply And.intro | exact flatI | exact flatS | exact rowLens | exact ih | (intro; skip) | apply obsN | apply obsC | apply obA | apply obM | apply obB | apply svA | apply tupA | apply lcA | apply lcS | apply svC | apply liC | apply lbC | apply lsC | apply vIc | apply vBc | apply vSc | apply vLc | apply mapC | apply c_eqIntS | apply c_eqSyntaxS | apply ih)
  all_goals (try simp only [std] at *)
  all_goals (try (first | with_reducible rfl | omega | assumption | (refine (decide_eq_true ?_).symm; assumption) | (refine (decide_eq_false ?_).symm; assumption) | (refine rowGet ?_; (first | omega | (simp only [std]; omega) | grind)) | (refine getC ?_ rfl; (first | omega | (simp only [std]; omega) | grind)) | (refine fill_step ?_ ?_; (first | omega | (simp only [std]; omega) | grind); (first | rfl | exact (Row.eq _).trans rfl)) | (refine fill_init ?_; (first | rfl | exact (Row.eq _).trans rfl)) | grind [bytes_ext, snocI, snocS, rowSnoc]))
theorem c_eqSyntax (x : Syntax) : ∀ (y : Syntax), P_c_eqSyntax x y := Syntax.ind (P := fun x => ∀ (y : Syntax), P_c_eqSyntax x y) (fun x ih y => c_eqSyntax_s x y ih) x
abbrev P_c_eqBinding (x : Binding) (y : Binding) : Prop := CallOK Try.prog 215 [] [bindingA x, bindingA y] [] (.sv (lb (decide (x = y))))
theorem run_c_eqBinding (x : Binding) (y : Binding) : aexec Try.prog (Option.getD (Func.body Try.f215) Code.skip) (entry [] [bindingA x, bindingA y] 26) [Orc.br [Orc.fin []]
 [Orc.call [Mode.rd, Mode.rd] [] (AV.sv (lb (decide (Binding.scopes x = Binding.scopes y)))), Orc.br [Orc.fin []] [Orc.br [Orc.fin []] [Orc.br [Orc.fin []] [Orc.fin []]]]]] (finK
 Try.prog [ResultVar.tmp 4] [] (AV.sv (lb (decide (x = y))))) = ((decide (Array.toList (ByteArray.data (Binding.text x)) ≠ Array.toList (ByteArray.data (Binding.text y))) = true →
 ObsEq [] [] ∧ AV.sv (lb false) = AV.sv (lb (decide (x = y)))) ∧ (decide (Array.toList (ByteArray.data (Binding.text x)) ≠ Array.toList (ByteArray.data (Binding.text y))) = false →
 P_c_eqIntS (Binding.scopes x) (Binding.scopes y) ∧ ((!decide (Binding.scopes x = Binding.scopes y)) = true → ObsEq [] [] ∧ AV.sv (lb false) = AV.sv (lb (decide (x = y)))) ∧
 ((!decide (Binding.scopes x = Binding.scopes y)) = false → (decide (Binding.kind x ≠ Binding.kind y) = true → ObsEq [] [] ∧ AV.sv (lb false) = AV.sv (lb (decide (x = y)))) ∧
 (decide (Binding.kind x ≠ Binding.kind y) = false → (decide (Binding.number x ≠ Binding.number y) = true → ObsEq [] [] ∧ AV.sv (lb false) = AV.sv (lb (decide (x = y)))) ∧ (decide
 (Binding.number x ≠ Binding.number y) = false → ObsEq [] [] ∧ AV.sv (lb true) = AV.sv (lb (decide (x = y)))))))) := by kernel_rfl
theorem c_eqBinding (x y : Binding)  : P_c_eqBinding x y := by
  refine CallOK.ofRun wide (run_c_eqBinding x y) Try.call215 Try.func215 rfl rfl rfl ?_
  simp only [bindingExt]
  with_reducible repeat' (first | apply And.intro | exact flatI | exact flatS | exact rowLens | (intro; skip) | apply obsN | apply obsC | apply obA | apply obM | apply obB | apply svA | apply tupA | apply lcA | apply lcS | apply svC | apply liC | apply lbC | apply lsC | apply vIc | apply vBc | apply vSc | apply vLc | apply mapC | apply c_eqIntS)
  all_goals (try simp only [std] at *)
  all_goals (try (first | with_reducible rfl | omega | assumption | (refine (decide_eq_true ?_).symm; assumption) | (refine (decide_eq_false ?_).symm; assumption) | (refine rowGet ?_; (first | omega | (simp only [std]; omega) | grind)) | (refine getC ?_ rfl; (first | omega | (simp only [std]; omega) | grind)) | (refine fill_step ?_ ?_; (first | omega | (simp only [std]; omega) | grind); (first | rfl | exact (Row.eq _).trans rfl)) | (refine fill_init ?_; (first | rfl | exact (Row.eq _).trans rfl)) | grind [bytes_ext, snocI, snocS, rowSnoc]))
abbrev P_c_eqBindingS (A : List Binding) (B : List Binding) : Prop := CallOK Try.prog 107 [] [ll (A.map bindingC), ll (B.map bindingC)] [] (.sv (lb (decide (A = B))))
def Tc_eqBindingSLa (A : List Binding) (B : List Binding) (x0 : SV) : St := St.mk (regsOf 27 [(0, AV.sv (ll (List.map bindingC A))), (1, AV.sv (ll (List.map bindingC B))), (5,
 AV.sv x0)]) [] 0 
def Lc_eqBindingSLa (A : List Binding) (B : List Binding) (k : Nat) : St := Tc_eqBindingSLa A B (li (↑k : Int)) 
def Ic_eqBindingSLa (A : List Binding) (B : List Binding) : Nat → St → Prop := Head (Lc_eqBindingSLa A B) (fun k => k ≤ List.length A ∧ List.length A ≤ 9223372036854775807 ∧
 List.length A = List.length B ∧ List.take k A = List.take k B) fun k => List.length A - k 
def W0c_eqBindingSLa (A : List Binding) (B : List Binding) : St := St.mk (regsOf 27 []) [] 0 
def W1c_eqBindingSLa (A : List Binding) (B : List Binding) (x0 : SV) : St := St.mk (regsOf 27 [(4, AV.sv x0)]) [] 0 
def Yc_eqBindingSLa (A : List Binding) (B : List Binding) : List (Prop × AEx × St) := [(A = B, AEx.exit 0, W0c_eqBindingSLa A B), (A ≠ B, AEx.ret, W1c_eqBindingSLa A B (lb false))]
theorem Hc_eqBindingSLa {A : List Binding} {B : List Binding} {k : Nat} {m : Nat} (h : (fun k => k ≤ List.length A ∧ List.length A ≤ 9223372036854775807 ∧ List.length A =
 List.length B ∧ List.take k A = List.take k B) k) (hm : (fun k => List.length A - k) k = m) : Ic_eqBindingSLa A B m (Lc_eqBindingSLa A B k) := hm ▸ Head.mk h
theorem Ec_eqBindingSLa {A : List Binding} {B : List Binding} {k : Nat} {x0 : SV} (h0 : x0 = (li (↑k : Int))) : Tc_eqBindingSLa A B x0 = Lc_eqBindingSLa A B k := by
  rw [h0]
  rfl
theorem EW1c_eqBindingSLa {A : List Binding} {B : List Binding} {x0 y0 : SV} (h0 : x0 = y0) : W1c_eqBindingSLa A B x0 = W1c_eqBindingSLa A B y0 := by rw [h0]
theorem run_c_eqBindingSLa (A : List Binding) (B : List Binding) (k : Nat) : aexec Try.prog (loopAt Try.f107 0) (Lc_eqBindingSLa A B k) [Orc.br [Orc.draw [], Orc.cells (bindingF
 (List.getD A k default)), Orc.cells (bindingF (List.getD B k default)), Orc.call [Mode.rd, Mode.rd] [] (AV.sv (lb (decide (List.getD A k default = List.getD B k default)))),
 Orc.br [Orc.ghost (Ghost.sel [] [4]), Orc.out 1] [Orc.ghost (Ghost.sel [] [0, 1, 5]), Orc.goto (List.length A - (k + 1)) (Lc_eqBindingSLa A B (k + 1))]] [Orc.ghost (Ghost.sel []
 []), Orc.out 0]] (loopK (Ic_eqBindingSLa A B) (Yc_eqBindingSLa A B) (List.length A - k)) = (List.length (List.map bindingC A) ≤ 9223372036854775807 → (decide ((↑k : Int) <
 (↑(List.length (List.map bindingC A)) : Int)) = true → (0 ≤ (↑k : Int) ∧ (List.map bindingC A)[Int.toNat (↑k : Int)]? = some (bindingF (List.getD A k default))) ∧ (0 ≤ (↑k : Int)
 ∧ (List.map bindingC B)[Int.toNat (↑k : Int)]? = some (bindingF (List.getD B k default))) ∧ P_c_eqBinding (List.getD A k default) (List.getD B k default) ∧ ((!decide (List.getD A
 k default = List.getD B k default)) = true → A ≠ B ∧ W1c_eqBindingSLa A B (lb false) = W1c_eqBindingSLa A B (lb false)) ∧ ((!decide (List.getD A k default = List.getD B k
 default)) = false → rng IntKind.i64 ((↑k : Int) + 1) ∧ List.length A - (k + 1) < List.length A - k ∧ Tc_eqBindingSLa A B (li ((↑k : Int) + 1)) = Lc_eqBindingSLa A B (k + 1) ∧
 Ic_eqBindingSLa A B (List.length A - (k + 1)) (Lc_eqBindingSLa A B (k + 1)))) ∧ (decide ((↑k : Int) < (↑(List.length (List.map bindingC A)) : Int)) = false → A = B ∧
 W0c_eqBindingSLa A B = W0c_eqBindingSLa A B)) := by kernel_rfl
theorem Sc_eqBindingSLa (A : List Binding) (B : List Binding)  : LoopSem Try.prog (loopAt Try.f107 0) (Ic_eqBindingSLa A B) (Yc_eqBindingSLa A B) := by
  refine LoopSem.ofHead wide fun k h => ⟨_, _, run_c_eqBindingSLa A B k, ?_⟩
  with_reducible repeat' (first | apply And.intro | exact flatI | exact flatS | exact rowLens | (intro; skip) | apply obsN | apply obsC | apply obA | apply obM | apply obB | apply svA | apply tupA | apply lcA | apply lcS | apply svC | apply liC | apply lbC | apply lsC | apply vIc | apply vBc | apply vSc | apply vLc | apply mapC | apply Hc_eqBindingSLa | apply Ec_eqBindingSLa | apply EW1c_eqBindingSLa | apply c_eqBinding)
  all_goals (try simp only [std] at *)
  all_goals (try (first | with_reducible rfl | omega | assumption | (refine (decide_eq_true ?_).symm; assumption) | (refine (decide_eq_false ?_).symm; assumption) | (refine rowGet ?_; (first | omega | (simp only [std]; omega) | grind)) | (refine getC ?_ rfl; (first | omega | (simp only [std]; omega) | grind)) | (refine fill_step ?_ ?_; (first | omega | (simp only [std]; omega) | grind); (first | rfl | exact (Row.eq _).trans rfl)) | (refine fill_init ?_; (first | rfl | exact (Row.eq _).trans rfl)) | grind [take_eq, getD_mem', snocI, snocS, rowSnoc]))
theorem run_c_eqBindingS (A : List Binding) (B : List Binding) : aexec Try.prog (Option.getD (Func.body Try.f107) Code.skip) (entry [] [ll (List.map bindingC A), ll (List.map
 bindingC B)] 27) [Orc.br [Orc.fin []] [Orc.ghost (Ghost.sel [] [0, 1, 5]), Orc.loop (List.length A - 0) (Lc_eqBindingSLa A B 0) (Ic_eqBindingSLa A B) [(A = B, AEx.exit 0,
 W0c_eqBindingSLa A B, [Orc.fin []]), (A ≠ B, AEx.ret, W1c_eqBindingSLa A B (lb false), [Orc.fin []])]]] (finK Try.prog [ResultVar.tmp 4] [] (AV.sv (lb (decide (A = B))))) =
 (List.length (List.map bindingC A) ≤ 9223372036854775807 → List.length (List.map bindingC B) ≤ 9223372036854775807 → (decide ((↑(List.length (List.map bindingC A)) : Int) ≠
 (↑(List.length (List.map bindingC B)) : Int)) = true → ObsEq [] [] ∧ AV.sv (lb false) = AV.sv (lb (decide (A = B)))) ∧ (decide ((↑(List.length (List.map bindingC A)) : Int) ≠
 (↑(List.length (List.map bindingC B)) : Int)) = false → Tc_eqBindingSLa A B (li 0) = Lc_eqBindingSLa A B 0 ∧ Ic_eqBindingSLa A B (List.length A - 0) (Lc_eqBindingSLa A B 0) ∧
 LoopSem Try.prog (loopAt Try.f107 0) (Ic_eqBindingSLa A B) (Yc_eqBindingSLa A B) ∧ (A = B → ObsEq [] [] ∧ AV.sv (lb true) = AV.sv (lb (decide (A = B)))) ∧ ((A = B → False) → ObsEq
 [] [] ∧ AV.sv (lb false) = AV.sv (lb (decide (A = B)))) ∧ True)) := by kernel_rfl
theorem c_eqBindingS (A B : List Binding)  : P_c_eqBindingS A B := by
  refine CallOK.ofRun wide (run_c_eqBindingS A B) Try.call107 Try.func107 rfl rfl rfl ?_
  with_reducible repeat' (first | apply And.intro | exact flatI | exact flatS | exact rowLens | (intro; skip) | apply obsN | apply obsC | apply obA | apply obM | apply obB | apply svA | apply tupA | apply lcA | apply lcS | apply svC | apply liC | apply lbC | apply lsC | apply vIc | apply vBc | apply vSc | apply vLc | apply mapC | apply Hc_eqBindingSLa | apply Ec_eqBindingSLa | apply Sc_eqBindingSLa | apply EW1c_eqBindingSLa | apply c_eqBinding)
  all_goals (try simp only [std] at *)
  all_goals (try (first | with_reducible rfl | omega | assumption | (refine (decide_eq_true ?_).symm; assumption) | (refine (decide_eq_false ?_).symm; assumption) | (refine rowGet ?_; (first | omega | (simp only [std]; omega) | grind)) | (refine getC ?_ rfl; (first | omega | (simp only [std]; omega) | grind)) | (refine fill_step ?_ ?_; (first | omega | (simp only [std]; omega) | grind); (first | rfl | exact (Row.eq _).trans rfl)) | (refine fill_init ?_; (first | rfl | exact (Row.eq _).trans rfl)) | grind [snocI, snocS, rowSnoc]))
abbrev P_c_eqRules (x : Rules) (y : Rules) : Prop := CallOK Try.prog 97 [] [rulesA x, rulesA y] [] (.sv (lb (decide (x = y))))
theorem run_c_eqRules (x : Rules) (y : Rules) : aexec Try.prog (Option.getD (Func.body Try.f97) Code.skip) (entry [] [rulesA x, rulesA y] 23) [Orc.call [Mode.rd, Mode.rd] [] (AV.sv
 (lb (decide (Rules.literals x = Rules.literals y)))), Orc.br [Orc.fin []] [Orc.call [Mode.rd, Mode.rd] [] (AV.sv (lb (decide (Rules.patterns x = Rules.patterns y)))), Orc.br
 [Orc.fin []] [Orc.call [Mode.rd, Mode.rd] [] (AV.sv (lb (decide (Rules.templates x = Rules.templates y)))), Orc.br [Orc.fin []] [Orc.fin []]]]] (finK Try.prog [ResultVar.tmp 4] []
 (AV.sv (lb (decide (x = y))))) = (P_c_eqSyntaxS (Rules.literals x) (Rules.literals y) ∧ ((!decide (Rules.literals x = Rules.literals y)) = true → ObsEq [] [] ∧ AV.sv (lb false) =
 AV.sv (lb (decide (x = y)))) ∧ ((!decide (Rules.literals x = Rules.literals y)) = false → P_c_eqSyntaxS (Rules.patterns x) (Rules.patterns y) ∧ ((!decide (Rules.patterns x =
 Rules.patterns y)) = true → ObsEq [] [] ∧ AV.sv (lb false) = AV.sv (lb (decide (x = y)))) ∧ ((!decide (Rules.patterns x = Rules.patterns y)) = false → P_c_eqSyntaxS
 (Rules.templates x) (Rules.templates y) ∧ ((!decide (Rules.templates x = Rules.templates y)) = true → ObsEq [] [] ∧ AV.sv (lb false) = AV.sv (lb (decide (x = y)))) ∧ ((!decide
 (Rules.templates x = Rules.templates y)) = false → ObsEq [] [] ∧ AV.sv (lb true) = AV.sv (lb (decide (x = y))))))) := by kernel_rfl
theorem c_eqRules (x y : Rules)  : P_c_eqRules x y := by
  refine CallOK.ofRun wide (run_c_eqRules x y) Try.call97 Try.func97 rfl rfl rfl ?_
  simp only [rulesExt]
  with_reducible repeat' (first | apply And.intro | exact flatI | exact flatS | exact rowLens | (intro; skip) | apply obsN | apply obsC | apply obA | apply obM | apply obB | apply svA | apply tupA | apply lcA | apply lcS | apply svC | apply liC | apply lbC | apply lsC | apply vIc | apply vBc | apply vSc | apply vLc | apply mapC | apply c_eqSyntaxS | apply c_eqSyntax)
  all_goals (try simp only [std] at *)
  all_goals (try (first | with_reducible rfl | omega | assumption | (refine (decide_eq_true ?_).symm; assumption) | (refine (decide_eq_false ?_).symm; assumption) | (refine rowGet ?_; (first | omega | (simp only [std]; omega) | grind)) | (refine getC ?_ rfl; (first | omega | (simp only [std]; omega) | grind)) | (refine fill_step ?_ ?_; (first | omega | (simp only [std]; omega) | grind); (first | rfl | exact (Row.eq _).trans rfl)) | (refine fill_init ?_; (first | rfl | exact (Row.eq _).trans rfl)) | grind [bytes_ext, snocI, snocS, rowSnoc]))
abbrev P_c_eqRulesS (A : List Rules) (B : List Rules) : Prop := CallOK Try.prog 108 [] [ll (A.map rulesC), ll (B.map rulesC)] [] (.sv (lb (decide (A = B))))
def Tc_eqRulesSLa (A : List Rules) (B : List Rules) (x0 : SV) : St := St.mk (regsOf 27 [(0, AV.sv (ll (List.map rulesC A))), (1, AV.sv (ll (List.map rulesC B))), (5, AV.sv x0)]) []
 0 
def Lc_eqRulesSLa (A : List Rules) (B : List Rules) (k : Nat) : St := Tc_eqRulesSLa A B (li (↑k : Int)) 
def Ic_eqRulesSLa (A : List Rules) (B : List Rules) : Nat → St → Prop := Head (Lc_eqRulesSLa A B) (fun k => k ≤ List.length A ∧ List.length A ≤ 9223372036854775807 ∧ List.length A
 = List.length B ∧ List.take k A = List.take k B) fun k => List.length A - k 
def W0c_eqRulesSLa (A : List Rules) (B : List Rules) : St := St.mk (regsOf 27 []) [] 0 
def W1c_eqRulesSLa (A : List Rules) (B : List Rules) (x0 : SV) : St := St.mk (regsOf 27 [(4, AV.sv x0)]) [] 0 
def Yc_eqRulesSLa (A : List Rules) (B : List Rules) : List (Prop × AEx × St) := [(A = B, AEx.exit 0, W0c_eqRulesSLa A B), (A ≠ B, AEx.ret, W1c_eqRulesSLa A B (lb false))]
theorem Hc_eqRulesSLa {A : List Rules} {B : List Rules} {k : Nat} {m : Nat} (h : (fun k => k ≤ List.length A ∧ List.length A ≤ 9223372036854775807 ∧ List.length A = List.length B ∧
 List.take k A = List.take k B) k) (hm : (fun k => List.length A - k) k = m) : Ic_eqRulesSLa A B m (Lc_eqRulesSLa A B k) := hm ▸ Head.mk h
theorem Ec_eqRulesSLa {A : List Rules} {B : List Rules} {k : Nat} {x0 : SV} (h0 : x0 = (li (↑k : Int))) : Tc_eqRulesSLa A B x0 = Lc_eqRulesSLa A B k := by
  rw [h0]
  rfl
theorem EW1c_eqRulesSLa {A : List Rules} {B : List Rules} {x0 y0 : SV} (h0 : x0 = y0) : W1c_eqRulesSLa A B x0 = W1c_eqRulesSLa A B y0 := by rw [h0]
theorem run_c_eqRulesSLa (A : List Rules) (B : List Rules) (k : Nat) : aexec Try.prog (loopAt Try.f108 0) (Lc_eqRulesSLa A B k) [Orc.br [Orc.draw [], Orc.cells (rulesF (List.getD A
 k default)), Orc.cells (rulesF (List.getD B k default)), Orc.call [Mode.rd, Mode.rd] [] (AV.sv (lb (decide (List.getD A k default = List.getD B k default)))), Orc.br [Orc.ghost
 (Ghost.sel [] [4]), Orc.out 1] [Orc.ghost (Ghost.sel [] [0, 1, 5]), Orc.goto (List.length A - (k + 1)) (Lc_eqRulesSLa A B (k + 1))]] [Orc.ghost (Ghost.sel [] []), Orc.out 0]]
 (loopK (Ic_eqRulesSLa A B) (Yc_eqRulesSLa A B) (List.length A - k)) = (List.length (List.map rulesC A) ≤ 9223372036854775807 → (decide ((↑k : Int) < (↑(List.length (List.map
 rulesC A)) : Int)) = true → (0 ≤ (↑k : Int) ∧ (List.map rulesC A)[Int.toNat (↑k : Int)]? = some (rulesF (List.getD A k default))) ∧ (0 ≤ (↑k : Int) ∧ (List.map rulesC B)[Int.toNat
 (↑k : Int)]? = some (rulesF (List.getD B k default))) ∧ P_c_eqRules (List.getD A k default) (List.getD B k default) ∧ ((!decide (List.getD A k default = List.getD B k default)) =
 true → A ≠ B ∧ W1c_eqRulesSLa A B (lb false) = W1c_eqRulesSLa A B (lb false)) ∧ ((!decide (List.getD A k default = List.getD B k default)) = false → rng IntKind.i64 ((↑k : Int) +
 1) ∧ List.length A - (k + 1) < List.length A - k ∧ Tc_eqRulesSLa A B (li ((↑k : Int) + 1)) = Lc_eqRulesSLa A B (k + 1) ∧ Ic_eqRulesSLa A B (List.length A - (k + 1)) (Lc_eqRulesSLa
 A B (k + 1)))) ∧ (decide ((↑k : Int) < (↑(List.length (List.map rulesC A)) : Int)) = false → A = B ∧ W0c_eqRulesSLa A B = W0c_eqRulesSLa A B)) := by kernel_rfl
theorem Sc_eqRulesSLa (A : List Rules) (B : List Rules)  : LoopSem Try.prog (loopAt Try.f108 0) (Ic_eqRulesSLa A B) (Yc_eqRulesSLa A B) := by
  refine LoopSem.ofHead wide fun k h => ⟨_, _, run_c_eqRulesSLa A B k, ?_⟩
  with_reducible repeat' (first | apply And.intro | exact flatI | exact flatS | exact rowLens | (intro; skip) | apply obsN | apply obsC | apply obA | apply obM | apply obB | apply svA | apply tupA | apply lcA | apply lcS | apply svC | apply liC | apply lbC | apply lsC | apply vIc | apply vBc | apply vSc | apply vLc | apply mapC | apply Hc_eqRulesSLa | apply Ec_eqRulesSLa | apply EW1c_eqRulesSLa | apply c_eqRules)
  all_goals (try simp only [std] at *)
  all_goals (try (first | with_reducible rfl | omega | assumption | (refine (decide_eq_true ?_).symm; assumption) | (refine (decide_eq_false ?_).symm; assumption) | (refine rowGet ?_; (first | omega | (simp only [std]; omega) | grind)) | (refine getC ?_ rfl; (first | omega | (simp only [std]; omega) | grind)) | (refine fill_step ?_ ?_; (first | omega | (simp only [std]; omega) | grind); (first | rfl | exact (Row.eq _).trans rfl)) | (refine fill_init ?_; (first | rfl | exact (Row.eq _).trans rfl)) | grind [take_eq, getD_mem', snocI, snocS, rowSnoc]))
theorem run_c_eqRulesS (A : List Rules) (B : List Rules) : aexec Try.prog (Option.getD (Func.body Try.f108) Code.skip) (entry [] [ll (List.map rulesC A), ll (List.map rulesC B)]
 27) [Orc.br [Orc.fin []] [Orc.ghost (Ghost.sel [] [0, 1, 5]), Orc.loop (List.length A - 0) (Lc_eqRulesSLa A B 0) (Ic_eqRulesSLa A B) [(A = B, AEx.exit 0, W0c_eqRulesSLa A B,
 [Orc.fin []]), (A ≠ B, AEx.ret, W1c_eqRulesSLa A B (lb false), [Orc.fin []])]]] (finK Try.prog [ResultVar.tmp 4] [] (AV.sv (lb (decide (A = B))))) = (List.length (List.map rulesC
 A) ≤ 9223372036854775807 → List.length (List.map rulesC B) ≤ 9223372036854775807 → (decide ((↑(List.length (List.map rulesC A)) : Int) ≠ (↑(List.length (List.map rulesC B)) :
 Int)) = true → ObsEq [] [] ∧ AV.sv (lb false) = AV.sv (lb (decide (A = B)))) ∧ (decide ((↑(List.length (List.map rulesC A)) : Int) ≠ (↑(List.length (List.map rulesC B)) : Int)) =
 false → Tc_eqRulesSLa A B (li 0) = Lc_eqRulesSLa A B 0 ∧ Ic_eqRulesSLa A B (List.length A - 0) (Lc_eqRulesSLa A B 0) ∧ LoopSem Try.prog (loopAt Try.f108 0) (Ic_eqRulesSLa A B)
 (Yc_eqRulesSLa A B) ∧ (A = B → ObsEq [] [] ∧ AV.sv (lb true) = AV.sv (lb (decide (A = B)))) ∧ ((A = B → False) → ObsEq [] [] ∧ AV.sv (lb false) = AV.sv (lb (decide (A = B)))) ∧
 True)) := by kernel_rfl
theorem c_eqRulesS (A B : List Rules)  : P_c_eqRulesS A B := by
  refine CallOK.ofRun wide (run_c_eqRulesS A B) Try.call108 Try.func108 rfl rfl rfl ?_
  with_reducible repeat' (first | apply And.intro | exact flatI | exact flatS | exact rowLens | (intro; skip) | apply obsN | apply obsC | apply obA | apply obM | apply obB | apply svA | apply tupA | apply lcA | apply lcS | apply svC | apply liC | apply lbC | apply lsC | apply vIc | apply vBc | apply vSc | apply vLc | apply mapC | apply Hc_eqRulesSLa | apply Ec_eqRulesSLa | apply Sc_eqRulesSLa | apply EW1c_eqRulesSLa | apply c_eqRules)
  all_goals (try simp only [std] at *)
  all_goals (try (first | with_reducible rfl | omega | assumption | (refine (decide_eq_true ?_).symm; assumption) | (refine (decide_eq_false ?_).symm; assumption) | (refine rowGet ?_; (first | omega | (simp only [std]; omega) | grind)) | (refine getC ?_ rfl; (first | omega | (simp only [std]; omega) | grind)) | (refine fill_step ?_ ?_; (first | omega | (simp only [std]; omega) | grind); (first | rfl | exact (Row.eq _).trans rfl)) | (refine fill_init ?_; (first | rfl | exact (Row.eq _).trans rfl)) | grind [snocI, snocS, rowSnoc]))
abbrev P_c_eqExpander (x : Expander) (y : Expander) : Prop := CallOK Try.prog 21 [] [expanderA x, expanderA y] [] (.sv (lb (decide (x = y))))
theorem run_c_eqExpander (x : Expander) (y : Expander) : aexec Try.prog (Option.getD (Func.body Try.f21) Code.skip) (entry [] [expanderA x, expanderA y] 32) [Orc.call [Mode.rd,
 Mode.rd] [] (AV.sv (lb (decide (Expander.bindings x = Expander.bindings y)))), Orc.br [Orc.fin []] [Orc.call [Mode.rd, Mode.rd] [] (AV.sv (lb (decide (Expander.macros x =
 Expander.macros y)))), Orc.br [Orc.fin []] [Orc.br [Orc.fin []] [Orc.br [Orc.fin []] [Orc.br [Orc.fin []] [Orc.fin []]]]]]] (finK Try.prog [ResultVar.tmp 4] [] (AV.sv (lb (decide
 (x = y))))) = (P_c_eqBindingS (Expander.bindings x) (Expander.bindings y) ∧ ((!decide (Expander.bindings x = Expander.bindings y)) = true → ObsEq [] [] ∧ AV.sv (lb false) = AV.sv
 (lb (decide (x = y)))) ∧ ((!decide (Expander.bindings x = Expander.bindings y)) = false → P_c_eqRulesS (Expander.macros x) (Expander.macros y) ∧ ((!decide (Expander.macros x =
 Expander.macros y)) = true → ObsEq [] [] ∧ AV.sv (lb false) = AV.sv (lb (decide (x = y)))) ∧ ((!decide (Expander.macros x = Expander.macros y)) = false → (decide (Expander.scope x
 ≠ Expander.scope y) = true → ObsEq [] [] ∧ AV.sv (lb false) = AV.sv (lb (decide (x = y)))) ∧ (decide (Expander.scope x ≠ Expander.scope y) = false → (decide (Expander.vari x ≠
 Expander.vari y) = true → ObsEq [] [] ∧ AV.sv (lb false) = AV.sv (lb (decide (x = y)))) ∧ (decide (Expander.vari x ≠ Expander.vari y) = false → (decide (Expander.steps x ≠
 Expander.steps y) = true → ObsEq [] [] ∧ AV.sv (lb false) = AV.sv (lb (decide (x = y)))) ∧ (decide (Expander.steps x ≠ Expander.steps y) = false → ObsEq [] [] ∧ AV.sv (lb true) =
 AV.sv (lb (decide (x = y))))))))) := by kernel_rfl
theorem c_eqExpander (x y : Expander)  : P_c_eqExpander x y := by
  refine CallOK.ofRun wide (run_c_eqExpander x y) Try.call21 Try.func21 rfl rfl rfl ?_
  simp only [expanderExt]
  with_reducible repeat' (first | apply And.intro | exact flatI | exact flatS | exact rowLens | (intro; skip) | apply obsN | apply obsC | apply obA | apply obM | apply obB | apply svA | apply tupA | apply lcA | apply lcS | apply svC | apply liC | apply lbC | apply lsC | apply vIc | apply vBc | apply vSc | apply vLc | apply mapC | apply c_eqBindingS | apply c_eqRulesS)
  all_goals (try simp only [std] at *)
  all_goals (try (first | with_reducible rfl | omega | assumption | (refine (decide_eq_true ?_).symm; assumption) | (refine (decide_eq_false ?_).symm; assumption) | (refine rowGet ?_; (first | omega | (simp only [std]; omega) | grind)) | (refine getC ?_ rfl; (first | omega | (simp only [std]; omega) | grind)) | (refine fill_step ?_ ?_; (first | omega | (simp only [std]; omega) | grind); (first | rfl | exact (Row.eq _).trans rfl)) | (refine fill_init ?_; (first | rfl | exact (Row.eq _).trans rfl)) | grind [bytes_ext, snocI, snocS, rowSnoc]))
end Go.Proofs.Ytehpjofddjmbpaa
end
section
namespace Go.Proofs.Ytehpjofddjmbpaa
open Go Go.Proofs.Ytehpjofddjmbpaa.Ab
set_option linter.unusedVariables false
set_option linter.unusedSimpArgs false
set_option maxHeartbeats 4000000
abbrev P_c_LNew  : Prop := CallOK Try.prog 3 [] [] [] (.sv (lb true))
theorem run_c_LNew : aexec Try.prog (Option.getD (Func.body Try.f3) Code.skip) (entry [] [] 36) [Orc.call [] [Ob.arr true 4 (List.map bindingC coreBindings)] (AV.sv (SV.agg [AC.ref
 0, AC.val (Cell.lit (Value.slice none 0 0)), vI 0, vI 0, vI 200])), Orc.call [] [Ob.arr true 4 (List.map bindingC coreBindings)] (AV.sv (SV.agg [AC.ref 0, AC.val (Cell.lit
 (Value.slice none 0 0)), vI 0, vI 0, vI 200])), Orc.call [Mode.rd, Mode.rd] [] (AV.sv (lb (decide (Expander.mk coreBindings [] 0 0 200 = Expander.mk coreBindings [] 0 0 200)))),
 Orc.br [Orc.fin []] [Orc.call [Mode.agg [some (true, 4), some (true, 3), none, none, none], Mode.rd] [Ob.arr true 4 (List.map bindingC (seqM mkB cB coreBindings 1)), Ob.arr true 3
 (List.map rulesC (seqM mkR cR [] (1 + (↑(sumBy cB coreBindings) : Int))))] (AV.sv (li (1 + (↑(sumBy cB coreBindings) : Int) + (↑(sumBy cR []) : Int)))), Orc.call [Mode.rd,
 Mode.rd] [] (AV.sv (li (1 + (↑(sumBy cB (seqM mkB cB coreBindings 1)) : Int) + (↑(sumBy cR []) : Int)))), Orc.bool false, Orc.bool false, Orc.call [] [Ob.arr true 4 (List.map
 bindingC coreBindings)] (AV.sv (SV.agg [AC.ref 0, AC.val (Cell.lit (Value.slice none 0 0)), vI 0, vI 0, vI 200])), Orc.call [Mode.rd, Mode.rd] [] (AV.sv (lb (decide (Expander.mk
 coreBindings [] 0 0 200 = Expander.mk coreBindings [] 0 0 200)))), Orc.br [Orc.fin []] [Orc.call [Mode.rd, Mode.rd] [] (AV.sv (li (1 + (↑(sumBy cB (seqM mkB cB coreBindings 1)) :
 Int) + (↑(sumBy cR []) : Int)))), Orc.bool false, Orc.bool false, Orc.fin []]]] (finK Try.prog [ResultVar.tmp 0] [] (AV.sv (lb true))) = (P_c_sNewExpander ∧ P_c_iNewExpander ∧
 P_c_eqExpander (Expander.mk coreBindings [] 0 0 200) (Expander.mk coreBindings [] 0 0 200) ∧ ((!decide (Expander.mk coreBindings [] 0 0 200 = Expander.mk coreBindings [] 0 0 200))
 = true → ObsEq [] [] ∧ AV.sv (lb false) = AV.sv (lb true)) ∧ ((!decide (Expander.mk coreBindings [] 0 0 200 = Expander.mk coreBindings [] 0 0 200)) = false → P_c_markExpander
 (Expander.mk coreBindings [] 0 0 200) 1 ∧ P_c_heldExpander (Expander.mk (seqM mkB cB coreBindings 1) [] 0 0 200) 1 ∧ false = false ∧ false = false ∧ P_c_iNewExpander ∧
 P_c_eqExpander (Expander.mk coreBindings [] 0 0 200) (Expander.mk coreBindings [] 0 0 200) ∧ ((!decide (Expander.mk coreBindings [] 0 0 200 = Expander.mk coreBindings [] 0 0 200))
 = true → ObsEq [] [] ∧ AV.sv (lb false) = AV.sv (lb true)) ∧ ((!decide (Expander.mk coreBindings [] 0 0 200 = Expander.mk coreBindings [] 0 0 200)) = false → P_c_heldExpander
 (Expander.mk (seqM mkB cB coreBindings 1) [] 0 0 200) 1 ∧ false = false ∧ false = false ∧ ObsEq [] [] ∧ AV.sv (lb true) = AV.sv (lb true)))) := by kernel_rfl
theorem c_LNew   : P_c_LNew := by
  refine CallOK.ofRun wide (run_c_LNew) Try.call3 Try.func3 rfl rfl rfl ?_
  have e : sumBy cB coreBindings ≤ 1000 := by decide +kernel
  with_reducible repeat' (first | apply And.intro | exact flatI | exact flatS | exact rowLens | (intro; skip) | apply obsN | apply obsC | apply obA | apply obM | apply obB | apply svA | apply tupA | apply lcA | apply lcS | apply svC | apply liC | apply lbC | apply lsC | apply vIc | apply vBc | apply vSc | apply vLc | apply mapC | apply c_sNewExpander | apply c_iNewExpander | apply c_eqExpander | apply c_markExpander | apply c_heldExpander)
  all_goals (try simp only [std, stdM] at *)
  all_goals (try (first | with_reducible rfl | omega | assumption | (refine (decide_eq_true ?_).symm; assumption) | (refine (decide_eq_false ?_).symm; assumption) | (refine rowGet ?_; (first | omega | (simp only [std, stdM]; omega) | grind)) | (refine getC ?_ rfl; (first | omega | (simp only [std, stdM]; omega) | grind)) | (refine fill_step ?_ ?_; (first | omega | (simp only [std, stdM]; omega) | grind); (first | rfl | exact (Row.eq _).trans rfl)) | (refine fill_init ?_; (first | rfl | exact (Row.eq _).trans rfl)) | (refine set_row ?_; (simp only [List.length_map, List.length_set, mkTo_len]; omega)) | (refine mkToRow ?_; (first | omega | (simp only [std, stdM]; omega) | grind)) | (refine mkTo_row ?_ rfl; (first | omega | (simp only [std, stdM]; omega) | grind)) | (refine mkTo_step ?_ ?_; (first | omega | (simp only [std, stdM]; omega) | grind); (first | grind [seqM_idem, seqM_len, sum_seqM, snocI, snocS, rowSnoc])) | grind [seqM_idem, seqM_len, sum_seqM, snocI, snocS, rowSnoc]))
end Go.Proofs.Ytehpjofddjmbpaa
end
section
namespace Go.Proofs.Ytehpjofddjmbpaa.fnExactNewExpander
open Go Go.ChangeShapes Go.WideShapes Go.ChangeAt Go.RowKit Go.Proofs.Ytehpjofddjmbpaa.Ab
set_option linter.unusedVariables false
theorem own : ownKnob Try.prog.godebug = none := by kernel_rfl
theorem laid : laidOutB Try.prog = true := by kernel_rfl
theorem rowed : mapsRowed Try.prog = true := by kernel_rfl
theorem sized : ((List.range Try.prog.types.size).all fun t => match Try.prog.underlying t with | some (.slice e) => decide (0 < Try.prog.cellsOf e) | _ => true) = true := by kernel_rfl
set_option maxRecDepth 100000 in
theorem lifted (os : Os) (started : os.Started) (H : Type) (enc : TypeId × Value → H) :
    ReturnsInHanded {} Try.checked os 3 .any (Rows.fnExactNewExpanderSpec.pre6 enc Try.prog Try.f3 Rows.fnExactNewExpanderRow.domain false) (Rows.fnExactNewExpanderSpec.post enc Try.prog Try.f3 false true false false) := by
  refine returnsInHanded_of_change (C := Try.checked) own started (by kernel_rfl) Try.func3
    (ChangeSpec.witness6 (enc := enc) (C := Try.checked) false ⟨#[], #[], []⟩ 12 (by kernel_rfl) (by kernel_rfl) (by kernel_rfl) (by kernel_rfl)) ?_
  intro W base args ds gs before hval0 hW hcnd _
  have hval : ∀ (j : Nat) t v, Try.f3.params[j]? = some t → args[j]? = some v → Value.okWide Try.prog W .any base t v := hval0
  have hW' := hW
  obtain ⟨p, q, hA0, hV, rfl, hfz, hnd⟩ := hW
  obtain ⟨rfl, rfl⟩ := trodVars_none hV
  have hA : DataW.TrodAll enc Try.prog W 0 (fun _ => true) true Try.f3.params.toList args.toList ds p := hA0
  rw [Try.params3] at hA hval
  have hA2 := hA
  clear hA0 hval0
  obtain ⟨hn, rfl, rfl⟩ := trodAll_nil hA
  obtain rfl : args = #[] := by cases args; simp_all
  refine (CallOK.kept (w := W) (vals := #[]) (c_LNew ) trivial).mono fun e W' ⟨he, hg, _⟩ => ?_
  subst he
  exact ⟨_, rfl, post_of_kept (pv := []) hW' (fun _ _ _ => (trodAll_cons_mk (shut_bool Try.underlying4 _) trodAll_mk0))
    (fun sp hsp => trodAll_kept laid rowed sized hg (by decide +kernel) hA2 fun y hy => hsp y (by simp at hy)) (fun _ _ => rfl) rfl
    hg (ok_one (by kernel_rfl) rfl (okWide_bool_mk Try.underlying4 _))⟩
set_option maxRecDepth 100000 in
set_option maxHeartbeats 0 in
theorem facts : joinedFacts Try.pinned.checked.prog 3 Try.f3 Rows.fnExactNewExpanderSpec Rows.fnExactNewExpanderRow = true := by
  delta joinedFacts
  with_reducible repeat' apply and_i
  all_goals (first | with_reducible exact enters | (rw [makes]; kernel_rfl) | (rw [lifts]; kernel_rfl) | decide +kernel)
theorem over : Rows.fnExactNewExpanderRow.holds Try.pinned (OpenSpec.ofChange Rows.fnExactNewExpanderSpec) :=
  OpenClaim.holds_of_wide 3 Try.f3 rfl rfl rfl rfl rfl rfl rfl ⟨rfl, rfl, rfl, rfl, rfl⟩ rfl rfl rfl rfl rfl (by kernel_rfl) Try.func3 facts
    (of_decide_eq_true (by kernel_rfl)) (by unfold Func.isWrapper; first | (rw [if_pos (by decide +kernel)]; kernel_rfl) | (rw [if_neg (by decide +kernel)]; exact ⟨rfl, rfl⟩))
    (fun os started H enc _ => lifted os started H enc)
theorem proved : Rows.FnExactNewExpanderSaid :=
  over
end Go.Proofs.Ytehpjofddjmbpaa.fnExactNewExpander
end
