/- Part 1 of the proof: The law FnExactFindExport holds: FindExport answers as the reference's does. No condition. -/
import Derived.Test.YtehpjofddjmbpaaQ4
section
namespace Go.Proofs.Ytehpjofddjmbpaa
open Go Go.Proofs.Ytehpjofddjmbpaa.Ab
set_option linter.unusedVariables false
set_option linter.unusedSimpArgs false
set_option maxHeartbeats 4000000
abbrev globals (L : List Unit) : List Int := L.flatMap Unit.globals
def expAt (L : List Export) (a b : ByteArray) : Nat := L.findIdx (fun e => decide (e.modul = a ∧ e.text = b))
theorem expAt_at {L : List Export} {a b : ByteArray} {k : Nat} (hk : k < L.length) (hb : k ≤ expAt L a b) (h : (L.getD k default).modul = a ∧ (L.getD k default).text = b) : expAt L a b = k := by
  have h1 : L.getD k default = L[k] := by simp [hk]
  rw [h1] at h
  rcases Nat.lt_or_ge k (expAt L a b) with h2 | h2
  · have := List.not_of_lt_findIdx h2
    simp [h] at this
  · omega
theorem expAt_next {L : List Export} {a b : ByteArray} {k : Nat} (hk : k < L.length) (hb : k ≤ expAt L a b) (h : ¬ ((L.getD k default).modul = a ∧ (L.getD k default).text = b)) : k + 1 ≤ expAt L a b := by
  have h1 : L.getD k default = L[k] := by simp [hk]
  rw [h1] at h
  rcases Nat.lt_or_ge k (expAt L a b) with h2 | h2
  · exact h2
  · have e : expAt L a b = k := by omega
    have := List.findIdx_getElem (p := fun e : Export => decide (e.modul = a ∧ e.text = b)) (xs := L) (w := by show expAt L a b < _; omega)
    have h3 : decide ((L[expAt L a b]'(by omega)).modul = a ∧ (L[expAt L a b]'(by omega)).text = b) = true := this
    simp only [e, decide_eq_true_eq] at h3
    exact absurd h3 h
theorem exp_none {L : List Export} {a b : ByteArray} (h : ¬ expAt L a b < L.length) : L.getD (expAt L a b) default = default := by
  rw [List.getD_eq_getElem?_getD, List.getElem?_eq_none (by omega)]; rfl
abbrev P_c_l7Find (L : List Export) (a : ByteArray) (b : ByteArray) : Prop := CallOK Try.prog 178 [] [ll (L.map exportC), ls a, ls b] [] (.sv (li (if expAt L a b < L.length then expAt L a b else -1)))
def Tc_l7FindLa (L : List Export) (a : ByteArray) (b : ByteArray) (x0 : SV) : St := St.mk (regsOf 28 [(1, AV.sv (ls a)), (2, AV.sv (ls b)), (9, AV.sv (ll (List.map exportC L))),
 (10, AV.sv (li (↑(List.length (List.map exportC L)) : Int))), (11, AV.sv x0)]) [] 0 
def Lc_l7FindLa (L : List Export) (a : ByteArray) (b : ByteArray) (k : Nat) : St := Tc_l7FindLa L a b (li (↑k : Int)) 
def Ic_l7FindLa (L : List Export) (a : ByteArray) (b : ByteArray) : Nat → St → Prop := Head (Lc_l7FindLa L a b) (fun k => k ≤ List.length L ∧ List.length L ≤ 9223372036854775807 ∧
 k ≤ expAt L a b) fun k => List.length L - k 
def W0c_l7FindLa (L : List Export) (a : ByteArray) (b : ByteArray) : St := St.mk (regsOf 28 []) [] 0 
def W1c_l7FindLa (L : List Export) (a : ByteArray) (b : ByteArray) (x0 : SV) : St := St.mk (regsOf 28 [(6, AV.sv x0)]) [] 0 
def Yc_l7FindLa (L : List Export) (a : ByteArray) (b : ByteArray) : List (Prop × AEx × St) := [(¬expAt L a b < List.length L, AEx.exit 0, W0c_l7FindLa L a b), (expAt L a b <
 List.length L, AEx.ret, W1c_l7FindLa L a b (li (↑(expAt L a b) : Int)))]
theorem Hc_l7FindLa {L : List Export} {a : ByteArray} {b : ByteArray} {k : Nat} {m : Nat} (h : (fun k => k ≤ List.length L ∧ List.length L ≤ 9223372036854775807 ∧ k ≤ expAt L a b)
 k) (hm : (fun k => List.length L - k) k = m) : Ic_l7FindLa L a b m (Lc_l7FindLa L a b k) := hm ▸ Head.mk h
theorem Ec_l7FindLa {L : List Export} {a : ByteArray} {b : ByteArray} {k : Nat} {x0 : SV} (h0 : x0 = (li (↑k : Int))) : Tc_l7FindLa L a b x0 = Lc_l7FindLa L a b k := by
  rw [h0]
  rfl
theorem EW1c_l7FindLa {L : List Export} {a : ByteArray} {b : ByteArray} {x0 y0 : SV} (h0 : x0 = y0) : W1c_l7FindLa L a b x0 = W1c_l7FindLa L a b y0 := by rw [h0]
theorem run_c_l7FindLa (L : List Export) (a : ByteArray) (b : ByteArray) (k : Nat) : aexec Try.prog (loopAt Try.f178 0) (Lc_l7FindLa L a b k) [Orc.br [Orc.cells (exportF (List.getD
 L k default)), Orc.br [Orc.br [Orc.ghost (Ghost.sel [] [6]), Orc.out 1] [Orc.ghost (Ghost.sel [] [1, 2, 9, 10, 11]), Orc.goto (List.length L - (k + 1)) (Lc_l7FindLa L a b (k +
 1))]] [Orc.bool false, Orc.ghost (Ghost.sel [] [1, 2, 9, 10, 11]), Orc.goto (List.length L - (k + 1)) (Lc_l7FindLa L a b (k + 1))]] [Orc.ghost (Ghost.sel [] []), Orc.out 0]]
 (loopK (Ic_l7FindLa L a b) (Yc_l7FindLa L a b) (List.length L - k)) = ((decide ((↑k : Int) < (↑(List.length (List.map exportC L)) : Int)) = true → (0 ≤ (↑k : Int) ∧ (List.map
 exportC L)[Int.toNat (↑k : Int)]? = some (exportF (List.getD L k default))) ∧ (decide (Array.toList (ByteArray.data (Export.modul (List.getD L k default))) = Array.toList
 (ByteArray.data a)) = true → (decide (Array.toList (ByteArray.data (Export.text (List.getD L k default))) = Array.toList (ByteArray.data b)) = true → expAt L a b < List.length L ∧
 W1c_l7FindLa L a b (li (↑k : Int)) = W1c_l7FindLa L a b (li (↑(expAt L a b) : Int))) ∧ (decide (Array.toList (ByteArray.data (Export.text (List.getD L k default))) = Array.toList
 (ByteArray.data b)) = false → rng IntKind.i64 ((↑k : Int) + 1) ∧ List.length L - (k + 1) < List.length L - k ∧ Tc_l7FindLa L a b (li ((↑k : Int) + 1)) = Lc_l7FindLa L a b (k + 1)
 ∧ Ic_l7FindLa L a b (List.length L - (k + 1)) (Lc_l7FindLa L a b (k + 1)))) ∧ (decide (Array.toList (ByteArray.data (Export.modul (List.getD L k default))) = Array.toList
 (ByteArray.data a)) = false → false = false ∧ rng IntKind.i64 ((↑k : Int) + 1) ∧ List.length L - (k + 1) < List.length L - k ∧ Tc_l7FindLa L a b (li ((↑k : Int) + 1)) =
 Lc_l7FindLa L a b (k + 1) ∧ Ic_l7FindLa L a b (List.length L - (k + 1)) (Lc_l7FindLa L a b (k + 1)))) ∧ (decide ((↑k : Int) < (↑(List.length (List.map exportC L)) : Int)) = false
 → ¬expAt L a b < List.length L ∧ W0c_l7FindLa L a b = W0c_l7FindLa L a b)) := by kernel_rfl
theorem Sc_l7FindLa (L : List Export) (a : ByteArray) (b : ByteArray)  : LoopSem Try.prog (loopAt Try.f178 0) (Ic_l7FindLa L a b) (Yc_l7FindLa L a b) := by
  refine LoopSem.ofHead wide fun k h => ⟨_, _, run_c_l7FindLa L a b k, ?_⟩
  have g1 := @expAt_at L a b k
  have g2 := @expAt_next L a b k
  with_reducible repeat' (first | apply And.intro | exact flatI | exact flatS | exact rowLens | (intro; skip) | apply obsN | apply obsC | apply obA | apply obM | apply obB | apply svA | apply tupA | apply lcA | apply lcS | apply svC | apply liC | apply lbC | apply lsC | apply vIc | apply vBc | apply vSc | apply vLc | apply mapC | apply Hc_l7FindLa | apply Ec_l7FindLa | apply EW1c_l7FindLa)
  all_goals (try simp only [std] at *)
  all_goals (try (first | with_reducible rfl | omega | assumption | (refine (decide_eq_true ?_).symm; assumption) | (refine (decide_eq_false ?_).symm; assumption) | (refine rowGet ?_; (first | omega | (simp only [std]; omega) | grind)) | (refine getC ?_ rfl; (first | omega | (simp only [std]; omega) | grind)) | (refine fill_step ?_ ?_; (first | omega | (simp only [std]; omega) | grind); (first | rfl | exact (Row.eq _).trans rfl)) | (refine fill_init ?_; (first | rfl | exact (Row.eq _).trans rfl)) | grind [bytes_ext, snocI, snocS, rowSnoc]))
theorem run_c_l7Find (L : List Export) (a : ByteArray) (b : ByteArray) : aexec Try.prog (Option.getD (Func.body Try.f178) Code.skip) (entry [] [ll (List.map exportC L), ls a, ls b]
 28) [Orc.ghost (Ghost.sel [] [1, 2, 9, 10, 11]), Orc.loop (List.length L - 0) (Lc_l7FindLa L a b 0) (Ic_l7FindLa L a b) [(¬expAt L a b < List.length L, AEx.exit 0, W0c_l7FindLa L
 a b, [Orc.fin []]), (expAt L a b < List.length L, AEx.ret, W1c_l7FindLa L a b (li (↑(expAt L a b) : Int)), [Orc.fin []])]] (finK Try.prog [ResultVar.tmp 6] [] (AV.sv (li (if expAt
 L a b < List.length L then (↑(expAt L a b) : Int) else (-1 : Int))))) = (List.length (List.map exportC L) ≤ 9223372036854775807 → Tc_l7FindLa L a b (li 0) = Lc_l7FindLa L a b 0 ∧
 Ic_l7FindLa L a b (List.length L - 0) (Lc_l7FindLa L a b 0) ∧ LoopSem Try.prog (loopAt Try.f178 0) (Ic_l7FindLa L a b) (Yc_l7FindLa L a b) ∧ ((expAt L a b < List.length L → False)
 → ObsEq [] [] ∧ AV.sv (li (-1 : Int)) = AV.sv (li (if expAt L a b < List.length L then (↑(expAt L a b) : Int) else (-1 : Int)))) ∧ (Nat.le (Nat.succ (expAt L a b)) (List.length L)
 → ObsEq [] [] ∧ AV.sv (li (↑(expAt L a b) : Int)) = AV.sv (li (if expAt L a b < List.length L then (↑(expAt L a b) : Int) else (-1 : Int)))) ∧ True) := by kernel_rfl
theorem c_l7Find (L : List Export) (a b : ByteArray)  : P_c_l7Find L a b := by
  refine CallOK.ofRun wide (run_c_l7Find L a b) Try.call178 Try.func178 rfl rfl rfl ?_
  with_reducible repeat' (first | apply And.intro | exact flatI | exact flatS | exact rowLens | (intro; skip) | apply obsN | apply obsC | apply obA | apply obM | apply obB | apply svA | apply tupA | apply lcA | apply lcS | apply svC | apply liC | apply lbC | apply lsC | apply vIc | apply vBc | apply vSc | apply vLc | apply mapC | apply Hc_l7FindLa | apply Ec_l7FindLa | apply Sc_l7FindLa | apply EW1c_l7FindLa)
  all_goals (try simp only [std] at *)
  all_goals (try (first | with_reducible rfl | omega | assumption | (refine (decide_eq_true ?_).symm; assumption) | (refine (decide_eq_false ?_).symm; assumption) | (refine rowGet ?_; (first | omega | (simp only [std]; omega) | grind)) | (refine getC ?_ rfl; (first | omega | (simp only [std]; omega) | grind)) | (refine fill_step ?_ ?_; (first | omega | (simp only [std]; omega) | grind); (first | rfl | exact (Row.eq _).trans rfl)) | (refine fill_init ?_; (first | rfl | exact (Row.eq _).trans rfl)) | grind [snocI, snocS, rowSnoc]))
abbrev P_c_sFindExport (w : World) (a : ByteArray) (b : ByteArray) : Prop := CallOK Try.prog 67 [] [worldA w, ls a, ls b] [] (.tup [exportA (w.exports.getD (expAt w.exports a b) default), lb (decide (expAt w.exports a b < w.exports.length))])
theorem run_c_sFindExport (w : World) (a : ByteArray) (b : ByteArray) : aexec Try.prog (Option.getD (Func.body Try.f67) Code.skip) (entry [] [worldA w, ls a, ls b] 22) [Orc.call
 [Mode.rd, Mode.rd, Mode.rd] [] (AV.sv (li (if expAt (World.exports w) a b < List.length (World.exports w) then (↑(expAt (World.exports w) a b) : Int) else (-1 : Int)))), Orc.br
 [Orc.fin []] [Orc.cells (exportF (List.getD (World.exports w) (Int.toNat (if expAt (World.exports w) a b < List.length (World.exports w) then (↑(expAt (World.exports w) a b) :
 Int) else (-1 : Int))) default)), Orc.fin []]] (finK Try.prog [ResultVar.cell 6 105, ResultVar.tmp 7] [] (AV.tup [exportA (List.getD (World.exports w) (expAt (World.exports w) a
 b) default), lb (decide (expAt (World.exports w) a b < List.length (World.exports w)))])) = (P_c_l7Find (World.exports w) a b ∧ (decide ((if expAt (World.exports w) a b <
 List.length (World.exports w) then (↑(expAt (World.exports w) a b) : Int) else (-1 : Int)) < 0) = true → ObsEq [] [] ∧ AV.tup [SV.agg [vS (ByteArray.mk #[]), vS (ByteArray.mk
 #[]), vI 0, vI 0], lb false] = AV.tup [SV.agg (vals (exportF (List.getD (World.exports w) (expAt (World.exports w) a b) default))), lb (decide (expAt (World.exports w) a b <
 List.length (World.exports w)))]) ∧ (decide ((if expAt (World.exports w) a b < List.length (World.exports w) then (↑(expAt (World.exports w) a b) : Int) else (-1 : Int)) < 0) =
 false → ((0 ≤ if expAt (World.exports w) a b < List.length (World.exports w) then (↑(expAt (World.exports w) a b) : Int) else (-1 : Int)) ∧ (List.map exportC (World.exports
 w))[Int.toNat (if expAt (World.exports w) a b < List.length (World.exports w) then (↑(expAt (World.exports w) a b) : Int) else (-1 : Int))]? = some (exportF (List.getD
 (World.exports w) (Int.toNat (if expAt (World.exports w) a b < List.length (World.exports w) then (↑(expAt (World.exports w) a b) : Int) else (-1 : Int))) default))) ∧ ObsEq [] []
 ∧ AV.tup [SV.agg (vals (exportF (List.getD (World.exports w) (Int.toNat (if expAt (World.exports w) a b < List.length (World.exports w) then (↑(expAt (World.exports w) a b) : Int)
 else (-1 : Int))) default))), lb true] = AV.tup [SV.agg (vals (exportF (List.getD (World.exports w) (expAt (World.exports w) a b) default))), lb (decide (expAt (World.exports w) a
 b < List.length (World.exports w)))])) := by kernel_rfl
theorem c_sFindExport (w : World) (a b : ByteArray) (h : w.exports.length ≤ 2147483647)  : P_c_sFindExport w a b := by
  refine CallOK.ofRun wide (run_c_sFindExport w a b) Try.call67 Try.func67 rfl rfl rfl ?_
  with_reducible repeat' (first | apply And.intro | exact flatI | exact flatS | exact rowLens | (intro; skip) | apply obsN | apply obsC | apply obA | apply obM | apply obB | apply svA | apply tupA | apply lcA | apply lcS | apply svC | apply liC | apply lbC | apply lsC | apply vIc | apply vBc | apply vSc | apply vLc | apply mapC | apply c_l7Find)
  all_goals (try simp only [std] at *)
  all_goals (try (first | with_reducible rfl | omega | assumption | (refine (decide_eq_true ?_).symm; assumption) | (refine (decide_eq_false ?_).symm; assumption) | (refine rowGet ?_; (first | omega | (simp only [std]; omega) | grind)) | (refine getC ?_ rfl; (first | omega | (simp only [std]; omega) | grind)) | (refine fill_step ?_ ?_; (first | omega | (simp only [std]; omega) | grind); (first | rfl | exact (Row.eq _).trans rfl)) | (refine fill_init ?_; (first | rfl | exact (Row.eq _).trans rfl)) | grind [snocI, snocS, rowSnoc]))
  all_goals (rw [exp_none (by split at * <;> omega)]; rfl)
abbrev P_c_iFindExport (w : World) (a : ByteArray) (b : ByteArray) : Prop := CallOK Try.prog 69 [] [worldA w, ls a, ls b] [] (.tup [exportA (w.exports.getD (expAt w.exports a b) default), lb (decide (expAt w.exports a b < w.exports.length))])
def Tc_iFindExportLa (w : World) (a : ByteArray) (b : ByteArray) (x0 : SV) : St := St.mk (regsOf 30 [(1, AV.sv (ls a)), (2, AV.sv (ls b)), (6, AV.sv (SV.one (AC.ptr 0 0))), (11,
 AV.sv (ll (List.map exportC (World.exports w)))), (12, AV.sv (li (↑(List.length (List.map exportC (World.exports w))) : Int))), (13, AV.sv x0)]) [Ob.box [vS (ByteArray.mk #[]), vS
 (ByteArray.mk #[]), vI 0, vI 0]] 0 
def Lc_iFindExportLa (w : World) (a : ByteArray) (b : ByteArray) (k : Nat) : St := Tc_iFindExportLa w a b (li (↑k : Int)) 
def Ic_iFindExportLa (w : World) (a : ByteArray) (b : ByteArray) : Nat → St → Prop := Head (Lc_iFindExportLa w a b) (fun k => k ≤ List.length (World.exports w) ∧ List.length
 (World.exports w) ≤ 9223372036854775807 ∧ k ≤ expAt (World.exports w) a b) fun k => List.length (World.exports w) - k 
def W0c_iFindExportLa (w : World) (a : ByteArray) (b : ByteArray) : St := St.mk (regsOf 30 [(6, AV.sv (SV.one (AC.ptr 0 0)))]) [Ob.box [vS (ByteArray.mk #[]), vS (ByteArray.mk
 #[]), vI 0, vI 0]] 0 
def W1c_iFindExportLa (w : World) (a : ByteArray) (b : ByteArray) (x0 : Ob) (x1 : SV) : St := St.mk (regsOf 30 [(6, AV.sv (SV.one (AC.ptr 0 0))), (7, AV.sv x1)]) [x0] 0 
def Yc_iFindExportLa (w : World) (a : ByteArray) (b : ByteArray) : List (Prop × AEx × St) := [(¬expAt (World.exports w) a b < List.length (World.exports w), AEx.exit 0,
 W0c_iFindExportLa w a b), (expAt (World.exports w) a b < List.length (World.exports w), AEx.ret, W1c_iFindExportLa w a b (Ob.box (vals (exportF (List.getD (World.exports w) (expAt
 (World.exports w) a b) default)))) (lb true))]
theorem Hc_iFindExportLa {w : World} {a : ByteArray} {b : ByteArray} {k : Nat} {m : Nat} (h : (fun k => k ≤ List.length (World.exports w) ∧ List.length (World.exports w) ≤
 9223372036854775807 ∧ k ≤ expAt (World.exports w) a b) k) (hm : (fun k => List.length (World.exports w) - k) k = m) : Ic_iFindExportLa w a b m (Lc_iFindExportLa w a b k) := hm ▸
 Head.mk h
theorem Ec_iFindExportLa {w : World} {a : ByteArray} {b : ByteArray} {k : Nat} {x0 : SV} (h0 : x0 = (li (↑k : Int))) : Tc_iFindExportLa w a b x0 = Lc_iFindExportLa w a b k := by
  rw [h0]
  rfl
theorem EW1c_iFindExportLa {w : World} {a : ByteArray} {b : ByteArray} {x0 y0 : Ob} {x1 y1 : SV} (h0 : x0 = y0) (h1 : x1 = y1) : W1c_iFindExportLa w a b x0 x1 = W1c_iFindExportLa w
 a b y0 y1 := by rw [h0, h1]
theorem run_c_iFindExportLa (w : World) (a : ByteArray) (b : ByteArray) (k : Nat) : aexec Try.prog (loopAt Try.f69 0) (Lc_iFindExportLa w a b k) [Orc.br [Orc.cells (exportF
 (List.getD (World.exports w) k default)), Orc.br [Orc.br [Orc.ghost (Ghost.sel [0] [6, 7]), Orc.out 1] [Orc.ghost (Ghost.sel [0] [1, 2, 6, 11, 12, 13]), Orc.goto (List.length
 (World.exports w) - (k + 1)) (Lc_iFindExportLa w a b (k + 1))]] [Orc.bool false, Orc.ghost (Ghost.sel [0] [1, 2, 6, 11, 12, 13]), Orc.goto (List.length (World.exports w) - (k +
 1)) (Lc_iFindExportLa w a b (k + 1))]] [Orc.ghost (Ghost.sel [0] [6]), Orc.out 0]] (loopK (Ic_iFindExportLa w a b) (Yc_iFindExportLa w a b) (List.length (World.exports w) - k)) =
 ((decide ((↑k : Int) < (↑(List.length (List.map exportC (World.exports w))) : Int)) = true → (0 ≤ (↑k : Int) ∧ (List.map exportC (World.exports w))[Int.toNat (↑k : Int)]? = some
 (exportF (List.getD (World.exports w) k default))) ∧ (decide (Array.toList (ByteArray.data (Export.modul (List.getD (World.exports w) k default))) = Array.toList (ByteArray.data
 a)) = true → (decide (Array.toList (ByteArray.data (Export.text (List.getD (World.exports w) k default))) = Array.toList (ByteArray.data b)) = true → expAt (World.exports w) a b <
 List.length (World.exports w) ∧ W1c_iFindExportLa w a b (Ob.box (vals (exportF (List.getD (World.exports w) k default)))) (lb true) = W1c_iFindExportLa w a b (Ob.box (vals
 (exportF (List.getD (World.exports w) (expAt (World.exports w) a b) default)))) (lb true)) ∧ (decide (Array.toList (ByteArray.data (Export.text (List.getD (World.exports w) k
 default))) = Array.toList (ByteArray.data b)) = false → rng IntKind.i64 ((↑k : Int) + 1) ∧ List.length (World.exports w) - (k + 1) < List.length (World.exports w) - k ∧
 Tc_iFindExportLa w a b (li ((↑k : Int) + 1)) = Lc_iFindExportLa w a b (k + 1) ∧ Ic_iFindExportLa w a b (List.length (World.exports w) - (k + 1)) (Lc_iFindExportLa w a b (k + 1))))
 ∧ (decide (Array.toList (ByteArray.data (Export.modul (List.getD (World.exports w) k default))) = Array.toList (ByteArray.data a)) = false → false = false ∧ rng IntKind.i64 ((↑k :
 Int) + 1) ∧ List.length (World.exports w) - (k + 1) < List.length (World.exports w) - k ∧ Tc_iFindExportLa w a b (li ((↑k : Int) + 1)) = Lc_iFindExportLa w a b (k + 1) ∧
 Ic_iFindExportLa w a b (List.length (World.exports w) - (k + 1)) (Lc_iFindExportLa w a b (k + 1)))) ∧ (decide ((↑k : Int) < (↑(List.length (List.map exportC (World.exports w))) :
 Int)) = false → ¬expAt (World.exports w) a b < List.length (World.exports w) ∧ W0c_iFindExportLa w a b = W0c_iFindExportLa w a b)) := by kernel_rfl
theorem Sc_iFindExportLa (w : World) (a : ByteArray) (b : ByteArray)  : LoopSem Try.prog (loopAt Try.f69 0) (Ic_iFindExportLa w a b) (Yc_iFindExportLa w a b) := by
  refine LoopSem.ofHead wide fun k h => ⟨_, _, run_c_iFindExportLa w a b k, ?_⟩
  have g1 := @expAt_at w.exports a b k
  have g2 := @expAt_next w.exports a b k
  with_reducible repeat' (first | apply And.intro | exact flatI | exact flatS | exact rowLens | (intro; skip) | apply obsN | apply obsC | apply obA | apply obM | apply obB | apply svA | apply tupA | apply lcA | apply lcS | apply svC | apply liC | apply lbC | apply lsC | apply vIc | apply vBc | apply vSc | apply vLc | apply mapC | apply Hc_iFindExportLa | apply Ec_iFindExportLa | apply EW1c_iFindExportLa)
  all_goals (try simp only [std] at *)
  all_goals (try (first | with_reducible rfl | omega | assumption | (refine (decide_eq_true ?_).symm; assumption) | (refine (decide_eq_false ?_).symm; assumption) | (refine rowGet ?_; (first | omega | (simp only [std]; omega) | grind)) | (refine getC ?_ rfl; (first | omega | (simp only [std]; omega) | grind)) | (refine fill_step ?_ ?_; (first | omega | (simp only [std]; omega) | grind); (first | rfl | exact (Row.eq _).trans rfl)) | (refine fill_init ?_; (first | rfl | exact (Row.eq _).trans rfl)) | grind [bytes_ext, snocI, snocS, rowSnoc]))
theorem run_c_iFindExport (w : World) (a : ByteArray) (b : ByteArray) : aexec Try.prog (Option.getD (Func.body Try.f69) Code.skip) (entry [] [worldA w, ls a, ls b] 30) [Orc.ghost
 (Ghost.sel [1] [1, 2, 6, 11, 12, 13]), Orc.loop (List.length (World.exports w) - 0) (Lc_iFindExportLa w a b 0) (Ic_iFindExportLa w a b) [(¬expAt (World.exports w) a b <
 List.length (World.exports w), AEx.exit 0, W0c_iFindExportLa w a b, [Orc.fin []]), (expAt (World.exports w) a b < List.length (World.exports w), AEx.ret, W1c_iFindExportLa w a b
 (Ob.box (vals (exportF (List.getD (World.exports w) (expAt (World.exports w) a b) default)))) (lb true), [Orc.fin []])]] (finK Try.prog [ResultVar.cell 6 105, ResultVar.tmp 7] []
 (AV.tup [exportA (List.getD (World.exports w) (expAt (World.exports w) a b) default), lb (decide (expAt (World.exports w) a b < List.length (World.exports w)))])) = (List.length
 (List.map exportC (World.exports w)) ≤ 9223372036854775807 → Tc_iFindExportLa w a b (li 0) = Lc_iFindExportLa w a b 0 ∧ Ic_iFindExportLa w a b (List.length (World.exports w) - 0)
 (Lc_iFindExportLa w a b 0) ∧ LoopSem Try.prog (loopAt Try.f69 0) (Ic_iFindExportLa w a b) (Yc_iFindExportLa w a b) ∧ ((expAt (World.exports w) a b < List.length (World.exports w)
 → False) → ObsEq [] [] ∧ AV.tup [SV.agg [vS (ByteArray.mk #[]), vS (ByteArray.mk #[]), vI 0, vI 0], lb false] = AV.tup [SV.agg (vals (exportF (List.getD (World.exports w) (expAt
 (World.exports w) a b) default))), lb (decide (expAt (World.exports w) a b < List.length (World.exports w)))]) ∧ (Nat.le (Nat.succ (expAt (World.exports w) a b)) (List.length
 (World.exports w)) → ObsEq [] [] ∧ AV.tup [SV.agg (vals (exportF (List.getD (World.exports w) (expAt (World.exports w) a b) default))), lb true] = AV.tup [SV.agg (vals (exportF
 (List.getD (World.exports w) (expAt (World.exports w) a b) default))), lb (decide (expAt (World.exports w) a b < List.length (World.exports w)))]) ∧ True) := by kernel_rfl
theorem c_iFindExport (w : World) (a b : ByteArray)  : P_c_iFindExport w a b := by
  refine CallOK.ofRun wide (run_c_iFindExport w a b) Try.call69 Try.func69 rfl rfl rfl ?_
  with_reducible repeat' (first | apply And.intro | exact flatI | exact flatS | exact rowLens | (intro; skip) | apply obsN | apply obsC | apply obA | apply obM | apply obB | apply svA | apply tupA | apply lcA | apply lcS | apply svC | apply liC | apply lbC | apply lsC | apply vIc | apply vBc | apply vSc | apply vLc | apply mapC | apply Hc_iFindExportLa | apply Ec_iFindExportLa | apply Sc_iFindExportLa | apply EW1c_iFindExportLa)
  all_goals (try simp only [std] at *)
  all_goals (try (first | with_reducible rfl | omega | assumption | (refine (decide_eq_true ?_).symm; assumption) | (refine (decide_eq_false ?_).symm; assumption) | (refine rowGet ?_; (first | omega | (simp only [std]; omega) | grind)) | (refine getC ?_ rfl; (first | omega | (simp only [std]; omega) | grind)) | (refine fill_step ?_ ?_; (first | omega | (simp only [std]; omega) | grind); (first | rfl | exact (Row.eq _).trans rfl)) | (refine fill_init ?_; (first | rfl | exact (Row.eq _).trans rfl)) | grind [snocI, snocS, rowSnoc]))
  all_goals (rw [exp_none (by assumption)]; rfl)
end Go.Proofs.Ytehpjofddjmbpaa
end
section
namespace Go.Proofs.Ytehpjofddjmbpaa
open Go Go.Proofs.Ytehpjofddjmbpaa.Ab
set_option linter.unusedVariables false
set_option linter.unusedSimpArgs false
set_option maxHeartbeats 4000000
abbrev P_c_szIntS (L : List Int) (left : Int) : Prop := CallOK Try.prog 149 [] [ll (L.map intC), li left] [] (.sv (li (sz L.length left)))
theorem run_c_szIntS (L : List Int) (left : Int) : aexec Try.prog (Option.getD (Func.body Try.f149) Code.skip) (entry [] [ll (List.map intC L), li left] 12) [Orc.br [Orc.fin []]
 [Orc.fin []]] (finK Try.prog [ResultVar.tmp 4] [] (AV.sv (li (sz (List.length L) left)))) = (List.length (List.map intC L) ≤ 9223372036854775807 → rng IntKind.i64 (left -
 (↑(List.length (List.map intC L)) : Int)) ∧ (decide (left - (↑(List.length (List.map intC L)) : Int) < 0) = true → ObsEq [] [] ∧ AV.sv (li (-1 : Int)) = AV.sv (li (sz (List.length
 L) left))) ∧ (decide (left - (↑(List.length (List.map intC L)) : Int) < 0) = false → ObsEq [] [] ∧ AV.sv (li (left - (↑(List.length (List.map intC L)) : Int))) = AV.sv (li (sz
 (List.length L) left)))) := by kernel_rfl
theorem c_szIntS (L : List Int) (left : Int) (h0 : 0 ≤ left) (h : left ≤ 2147483647)  : P_c_szIntS L left := by
  refine CallOK.ofRun wide (run_c_szIntS L left) Try.call149 Try.func149 rfl rfl rfl ?_
  with_reducible repeat' (first | apply And.intro | exact flatI | exact flatS | exact rowLens | (intro; skip) | apply obsN | apply obsC | apply obA | apply obM | apply obB | apply svA | apply tupA | apply lcA | apply lcS | apply svC | apply liC | apply lbC | apply lsC | apply vIc | apply vBc | apply vSc | apply vLc | apply mapC)
  all_goals (try simp only [std] at *)
  all_goals (try (first | with_reducible rfl | omega | assumption | (refine (decide_eq_true ?_).symm; assumption) | (refine (decide_eq_false ?_).symm; assumption) | (refine rowGet ?_; (first | omega | (simp only [std]; omega) | grind)) | (refine getC ?_ rfl; (first | omega | (simp only [std]; omega) | grind)) | (refine fill_step ?_ ?_; (first | omega | (simp only [std]; omega) | grind); (first | rfl | exact (Row.eq _).trans rfl)) | (refine fill_init ?_; (first | rfl | exact (Row.eq _).trans rfl)) | grind [sz, snocI, snocS, rowSnoc]))
abbrev P_c_szDatumS (L : List Datum) (left : Int) : Prop := CallOK Try.prog 118 [] [ll (L.map datumC), li left] [] (.sv (li (sz (L.length + sumBy wD L) left)))
abbrev P_c_szDatum (x : Datum) (left : Int) : Prop := CallOK Try.prog 42 [] [datumA x, li left] [] (.sv (li (sz (wD x) left)))
def Tc_szDatumSLa (L : List Datum) (left : Int) (x0 : SV) (x1 : SV) : St := St.mk (regsOf 27 [(0, AV.sv (ll (List.map datumC L))), (1, AV.sv x1), (5, AV.sv x0)]) [] 0 
def Lc_szDatumSLa (L : List Datum) (left : Int) (k : Nat × Int) : St := Tc_szDatumSLa L left (li (↑(Prod.fst k) : Int)) (li (Prod.snd k)) 
def Ic_szDatumSLa (L : List Datum) (left : Int) : Nat → St → Prop := Head (Lc_szDatumSLa L left) (fun k => Prod.fst k ≤ List.length L ∧ List.length L ≤ 9223372036854775807 ∧ 0 ≤
 Prod.snd k ∧ Prod.snd k ≤ left ∧ sz (sumBy wD (List.drop (Prod.fst k) L)) (Prod.snd k) = sz (List.length L + sumBy wD L) left) fun k => List.length L - Prod.fst k 
def W0c_szDatumSLa (L : List Datum) (left : Int) (x0 : SV) : St := St.mk (regsOf 27 [(1, AV.sv x0)]) [] 0 
def W1c_szDatumSLa (L : List Datum) (left : Int) (x0 : SV) : St := St.mk (regsOf 27 [(4, AV.sv x0)]) [] 0 
def Yc_szDatumSLa (L : List Datum) (left : Int) : List (Prop × AEx × St) := [(0 ≤ sz (List.length L + sumBy wD L) left, AEx.exit 0, W0c_szDatumSLa L left (li (sz (List.length L +
 sumBy wD L) left))), (sz (List.length L + sumBy wD L) left = (-1 : Int), AEx.ret, W1c_szDatumSLa L left (li (-1 : Int)))]
theorem Hc_szDatumSLa {L : List Datum} {left : Int} {k : Nat × Int} {m : Nat} (h : (fun k => Prod.fst k ≤ List.length L ∧ List.length L ≤ 9223372036854775807 ∧ 0 ≤ Prod.snd k ∧
 Prod.snd k ≤ left ∧ sz (sumBy wD (List.drop (Prod.fst k) L)) (Prod.snd k) = sz (List.length L + sumBy wD L) left) k) (hm : (fun k => List.length L - Prod.fst k) k = m) :
 Ic_szDatumSLa L left m (Lc_szDatumSLa L left k) := hm ▸ Head.mk h
theorem Ec_szDatumSLa {L : List Datum} {left : Int} {k : Nat × Int} {x0 : SV} {x1 : SV} (h0 : x0 = (li (↑(Prod.fst k) : Int))) (h1 : x1 = (li (Prod.snd k))) : Tc_szDatumSLa L left
 x0 x1 = Lc_szDatumSLa L left k := by
  rw [h0, h1]
  rfl
theorem EW0c_szDatumSLa {L : List Datum} {left : Int} {x0 y0 : SV} (h0 : x0 = y0) : W0c_szDatumSLa L left x0 = W0c_szDatumSLa L left y0 := by rw [h0]
theorem EW1c_szDatumSLa {L : List Datum} {left : Int} {x0 y0 : SV} (h0 : x0 = y0) : W1c_szDatumSLa L left x0 = W1c_szDatumSLa L left y0 := by rw [h0]
theorem run_c_szDatumSLa (L : List Datum) (left : Int) (k : Nat × Int) : aexec Try.prog (loopAt Try.f118 0) (Lc_szDatumSLa L left k) [Orc.br [Orc.cells (datumF (List.getD L
 (Prod.fst k) default)), Orc.call [Mode.rd, Mode.rd] [] (AV.sv (li (sz (wD (List.getD L (Prod.fst k) default)) (Prod.snd k)))), Orc.br [Orc.ghost (Ghost.sel [] [4]), Orc.out 1]
 [Orc.ghost (Ghost.sel [] [0, 1, 5]), Orc.goto (List.length L - (Prod.fst k + 1)) (Lc_szDatumSLa L left (Prod.fst k + 1, sz (wD (List.getD L (Prod.fst k) default)) (Prod.snd k)))]]
 [Orc.ghost (Ghost.sel [] [1]), Orc.out 0]] (loopK (Ic_szDatumSLa L left) (Yc_szDatumSLa L left) (List.length L - Prod.fst k)) = (List.length (List.map datumC L) ≤
 9223372036854775807 → (decide ((↑(Prod.fst k) : Int) < (↑(List.length (List.map datumC L)) : Int)) = true → (0 ≤ (↑(Prod.fst k) : Int) ∧ (List.map datumC L)[Int.toNat (↑(Prod.fst
 k) : Int)]? = some (datumF (List.getD L (Prod.fst k) default))) ∧ P_c_szDatum (List.getD L (Prod.fst k) default) (Prod.snd k) ∧ (decide (sz (wD (List.getD L (Prod.fst k) default))
 (Prod.snd k) < 0) = true → sz (List.length L + sumBy wD L) left = (-1 : Int) ∧ W1c_szDatumSLa L left (li (-1 : Int)) = W1c_szDatumSLa L left (li (-1 : Int))) ∧ (decide (sz (wD
 (List.getD L (Prod.fst k) default)) (Prod.snd k) < 0) = false → rng IntKind.i64 ((↑(Prod.fst k) : Int) + 1) ∧ List.length L - (Prod.fst k + 1) < List.length L - Prod.fst k ∧
 Tc_szDatumSLa L left (li ((↑(Prod.fst k) : Int) + 1)) (li (sz (wD (List.getD L (Prod.fst k) default)) (Prod.snd k))) = Lc_szDatumSLa L left (Prod.fst k + 1, sz (wD (List.getD L
 (Prod.fst k) default)) (Prod.snd k)) ∧ Ic_szDatumSLa L left (List.length L - (Prod.fst k + 1)) (Lc_szDatumSLa L left (Prod.fst k + 1, sz (wD (List.getD L (Prod.fst k) default))
 (Prod.snd k))))) ∧ (decide ((↑(Prod.fst k) : Int) < (↑(List.length (List.map datumC L)) : Int)) = false → 0 ≤ sz (List.length L + sumBy wD L) left ∧ W0c_szDatumSLa L left (li
 (Prod.snd k)) = W0c_szDatumSLa L left (li (sz (List.length L + sumBy wD L) left)))) := by kernel_rfl
theorem Sc_szDatumSLa (L : List Datum) (left : Int) (h0 : 0 ≤ left) (h : left ≤ 2147483647) (ih : ∀ (x : Datum), x ∈ L → ∀ (left : Int), 0 ≤ left → left ≤ 2147483647 → P_c_szDatum
 x left)  : LoopSem Try.prog (loopAt Try.f118 0) (Ic_szDatumSLa L left) (Yc_szDatumSLa L left) := by
  refine LoopSem.ofHead wide fun k h => ⟨_, _, run_c_szDatumSLa L left k, ?_⟩
  obtain ⟨i, n⟩ := k
  simp only at *
  with_reducible repeat' (first | apply And.intro | exact flatI | exact flatS | exact rowLens | exact ih | (intro; skip) | apply obsN | apply obsC | apply obA | apply obM | apply obB | apply svA | apply tupA | apply lcA | apply lcS | apply svC | apply liC | apply lbC | apply lsC | apply vIc | apply vBc | apply vSc | apply vLc | apply mapC | apply Hc_szDatumSLa | apply Ec_szDatumSLa | apply EW0c_szDatumSLa | apply EW1c_szDatumSLa | apply ih)
  all_goals (try simp only [std] at *)
  all_goals (try (first | with_reducible rfl | omega | assumption | (refine (decide_eq_true ?_).symm; assumption) | (refine (decide_eq_false ?_).symm; assumption) | (refine rowGet ?_; (first | omega | (simp only [std]; omega) | grind)) | (refine getC ?_ rfl; (first | omega | (simp only [std]; omega) | grind)) | (refine fill_step ?_ ?_; (first | omega | (simp only [std]; omega) | grind); (first | rfl | exact (Row.eq _).trans rfl)) | (refine fill_init ?_; (first | rfl | exact (Row.eq _).trans rfl)) | grind [drop_get, sumBy, sz, getD_mem', snocI, snocS, rowSnoc]))
theorem run_c_szDatumS (L : List Datum) (left : Int) : aexec Try.prog (Option.getD (Func.body Try.f118) Code.skip) (entry [] [ll (List.map datumC L), li left] 27) [Orc.br [Orc.fin
 []] [Orc.ghost (Ghost.sel [] [0, 1, 5]), Orc.loop (List.length L - 0) (Lc_szDatumSLa L left (0, left - (↑(List.length L) : Int))) (Ic_szDatumSLa L left) [(0 ≤ sz (List.length L +
 sumBy wD L) left, AEx.exit 0, W0c_szDatumSLa L left (li (sz (List.length L + sumBy wD L) left)), [Orc.fin []]), (sz (List.length L + sumBy wD L) left = (-1 : Int), AEx.ret,
 W1c_szDatumSLa L left (li (-1 : Int)), [Orc.fin []])]]] (finK Try.prog [ResultVar.tmp 4] [] (AV.sv (li (sz (List.length L + sumBy wD L) left)))) = (List.length (List.map datumC L)
 ≤ 9223372036854775807 → rng IntKind.i64 (left - (↑(List.length (List.map datumC L)) : Int)) ∧ (decide (left - (↑(List.length (List.map datumC L)) : Int) < 0) = true → ObsEq [] []
 ∧ AV.sv (li (-1 : Int)) = AV.sv (li (sz (List.length L + sumBy wD L) left))) ∧ (decide (left - (↑(List.length (List.map datumC L)) : Int) < 0) = false → Tc_szDatumSLa L left (li
 0) (li (left - (↑(List.length (List.map datumC L)) : Int))) = Lc_szDatumSLa L left (0, left - (↑(List.length L) : Int)) ∧ Ic_szDatumSLa L left (List.length L - 0) (Lc_szDatumSLa L
 left (0, left - (↑(List.length L) : Int))) ∧ LoopSem Try.prog (loopAt Try.f118 0) (Ic_szDatumSLa L left) (Yc_szDatumSLa L left) ∧ (Int.NonNeg (sz (List.length L + sumBy wD L) left
 - 0) → ObsEq [] [] ∧ AV.sv (li (sz (List.length L + sumBy wD L) left)) = AV.sv (li (sz (List.length L + sumBy wD L) left))) ∧ (sz (List.length L + sumBy wD L) left = (-1 : Int) →
 ObsEq [] [] ∧ AV.sv (li (-1 : Int)) = AV.sv (li (sz (List.length L + sumBy wD L) left))) ∧ True)) := by kernel_rfl
theorem c_szDatumS (L : List Datum) (left : Int) (h0 : 0 ≤ left) (h : left ≤ 2147483647) (ih : ∀ x ∈ L, ∀ (left : Int) (h0 : 0 ≤ left) (h : left ≤ 2147483647), P_c_szDatum x left) 
 : P_c_szDatumS L left := by
  refine CallOK.ofRun wide (run_c_szDatumS L left) Try.call118 Try.func118 rfl rfl rfl ?_
  with_reducible repeat' (first | apply And.intro | exact flatI | exact flatS | exact rowLens | exact ih | (intro; skip) | apply obsN | apply obsC | apply obA | apply obM | apply obB | apply svA | apply tupA | apply lcA | apply lcS | apply svC | apply liC | apply lbC | apply lsC | apply vIc | apply vBc | apply vSc | apply vLc | apply mapC | apply Hc_szDatumSLa | apply Ec_szDatumSLa | apply Sc_szDatumSLa | apply EW0c_szDatumSLa | apply EW1c_szDatumSLa)
  all_goals (try simp only [std] at *)
  all_goals (try (first | with_reducible rfl | omega | assumption | (refine (decide_eq_true ?_).symm; assumption) | (refine (decide_eq_false ?_).symm; assumption) | (refine rowGet ?_; (first | omega | (simp only [std]; omega) | grind)) | (refine getC ?_ rfl; (first | omega | (simp only [std]; omega) | grind)) | (refine fill_step ?_ ?_; (first | omega | (simp only [std]; omega) | grind); (first | rfl | exact (Row.eq _).trans rfl)) | (refine fill_init ?_; (first | rfl | exact (Row.eq _).trans rfl)) | grind [sz, snocI, snocS, rowSnoc]))
theorem run_c_szDatum_s (x : Datum) (left : Int) : aexec Try.prog (Option.getD (Func.body Try.f42) Code.skip) (entry [] [datumA x, li left] 19) [Orc.br [Orc.fin []] [Orc.call
 [Mode.rd, Mode.rd] [] (AV.sv (li (sz (List.length (Datum.items x) + sumBy wD (Datum.items x)) (left - (↑(List.length (Array.toList (ByteArray.data (Datum.text x)))) : Int))))),
 Orc.br [Orc.fin []] [Orc.fin []]]] (finK Try.prog [ResultVar.tmp 4] [] (AV.sv (li (sz (wD x) left)))) = (List.length (Array.toList (ByteArray.data (Datum.text x))) ≤
 9223372036854775807 → rng IntKind.i64 (left - (↑(List.length (Array.toList (ByteArray.data (Datum.text x)))) : Int)) ∧ (decide (left - (↑(List.length (Array.toList (ByteArray.data
 (Datum.text x)))) : Int) < 0) = true → ObsEq [] [] ∧ AV.sv (li (-1 : Int)) = AV.sv (li (sz (wD x) left))) ∧ (decide (left - (↑(List.length (Array.toList (ByteArray.data
 (Datum.text x)))) : Int) < 0) = false → P_c_szDatumS (Datum.items x) (left - (↑(List.length (Array.toList (ByteArray.data (Datum.text x)))) : Int)) ∧ (decide (sz (List.length
 (Datum.items x) + sumBy wD (Datum.items x)) (left - (↑(List.length (Array.toList (ByteArray.data (Datum.text x)))) : Int)) < 0) = true → ObsEq [] [] ∧ AV.sv (li (-1 : Int)) =
 AV.sv (li (sz (wD x) left))) ∧ (decide (sz (List.length (Datum.items x) + sumBy wD (Datum.items x)) (left - (↑(List.length (Array.toList (ByteArray.data (Datum.text x)))) : Int))
 < 0) = false → ObsEq [] [] ∧ AV.sv (li (sz (List.length (Datum.items x) + sumBy wD (Datum.items x)) (left - (↑(List.length (Array.toList (ByteArray.data (Datum.text x)))) :
 Int)))) = AV.sv (li (sz (wD x) left))))) := by kernel_rfl
theorem c_szDatum_s (x : Datum) (left : Int) (h0 : 0 ≤ left) (h : left ≤ 2147483647) (ih : ∀ z ∈ x.items, ∀ (left : Int) (h0 : 0 ≤ left) (h : left ≤ 2147483647), P_c_szDatum z
 left)  : P_c_szDatum x left := by
  refine CallOK.ofRun wide (run_c_szDatum_s x left) Try.call42 Try.func42 rfl rfl rfl ?_
  with_reducible repeat' (first | apply And.intro | exact flatI | exact flatS | exact rowLens | exact ih | (intro; skip) | apply obsN | apply obsC | apply obA | apply obM | apply obB | apply svA | apply tupA | apply lcA | apply lcS | apply svC | apply liC | apply lbC | apply lsC | apply vIc | apply vBc | apply vSc | apply vLc | apply mapC | apply c_szDatumS | apply ih)
  all_goals (try simp only [std] at *)
  all_goals (try (first | with_reducible rfl | omega | assumption | (refine (decide_eq_true ?_).symm; assumption) | (refine (decide_eq_false ?_).symm; assumption) | (refine rowGet ?_; (first | omega | (simp only [std]; omega) | grind)) | (refine getC ?_ rfl; (first | omega | (simp only [std]; omega) | grind)) | (refine fill_step ?_ ?_; (first | omega | (simp only [std]; omega) | grind); (first | rfl | exact (Row.eq _).trans rfl)) | (refine fill_init ?_; (first | rfl | exact (Row.eq _).trans rfl)) | grind [wD_eq, sz, wS, snocI, snocS, rowSnoc]))
theorem c_szDatum (x : Datum) : ∀ (left : Int) (h0 : 0 ≤ left) (h : left ≤ 2147483647), P_c_szDatum x left := Datum.ind (P := fun x => ∀ (left : Int) (h0 : 0 ≤ left) (h : left ≤ 2147483647), P_c_szDatum x left) (fun x ih left h0 h => c_szDatum_s x left h0 h ih) x
abbrev P_c_szCoreS (L : List Core) (left : Int) : Prop := CallOK Try.prog 159 [] [ll (L.map coreC), li left] [] (.sv (li (sz (L.length + sumBy wC L) left)))
abbrev P_c_szCore (x : Core) (left : Int) : Prop := CallOK Try.prog 58 [] [coreA x, li left] [] (.sv (li (sz (wC x) left)))
def Tc_szCoreSLa (L : List Core) (left : Int) (x0 : SV) (x1 : SV) : St := St.mk (regsOf 27 [(0, AV.sv (ll (List.map coreC L))), (1, AV.sv x1), (5, AV.sv x0)]) [] 0 
def Lc_szCoreSLa (L : List Core) (left : Int) (k : Nat × Int) : St := Tc_szCoreSLa L left (li (↑(Prod.fst k) : Int)) (li (Prod.snd k)) 
def Ic_szCoreSLa (L : List Core) (left : Int) : Nat → St → Prop := Head (Lc_szCoreSLa L left) (fun k => Prod.fst k ≤ List.length L ∧ List.length L ≤ 9223372036854775807 ∧ 0 ≤
 Prod.snd k ∧ Prod.snd k ≤ left ∧ sz (sumBy wC (List.drop (Prod.fst k) L)) (Prod.snd k) = sz (List.length L + sumBy wC L) left) fun k => List.length L - Prod.fst k 
def W0c_szCoreSLa (L : List Core) (left : Int) (x0 : SV) : St := St.mk (regsOf 27 [(1, AV.sv x0)]) [] 0 
def W1c_szCoreSLa (L : List Core) (left : Int) (x0 : SV) : St := St.mk (regsOf 27 [(4, AV.sv x0)]) [] 0 
def Yc_szCoreSLa (L : List Core) (left : Int) : List (Prop × AEx × St) := [(0 ≤ sz (List.length L + sumBy wC L) left, AEx.exit 0, W0c_szCoreSLa L left (li (sz (List.length L +
 sumBy wC L) left))), (sz (List.length L + sumBy wC L) left = (-1 : Int), AEx.ret, W1c_szCoreSLa L left (li (-1 : Int)))]
theorem Hc_szCoreSLa {L : List Core} {left : Int} {k : Nat × Int} {m : Nat} (h : (fun k => Prod.fst k ≤ List.length L ∧ List.length L ≤ 9223372036854775807 ∧ 0 ≤ Prod.snd k ∧
 Prod.snd k ≤ left ∧ sz (sumBy wC (List.drop (Prod.fst k) L)) (Prod.snd k) = sz (List.length L + sumBy wC L) left) k) (hm : (fun k => List.length L - Prod.fst k) k = m) :
 Ic_szCoreSLa L left m (Lc_szCoreSLa L left k) := hm ▸ Head.mk h
theorem Ec_szCoreSLa {L : List Core} {left : Int} {k : Nat × Int} {x0 : SV} {x1 : SV} (h0 : x0 = (li (↑(Prod.fst k) : Int))) (h1 : x1 = (li (Prod.snd k))) : Tc_szCoreSLa L left x0
 x1 = Lc_szCoreSLa L left k := by
  rw [h0, h1]
  rfl
theorem EW0c_szCoreSLa {L : List Core} {left : Int} {x0 y0 : SV} (h0 : x0 = y0) : W0c_szCoreSLa L left x0 = W0c_szCoreSLa L left y0 := by rw [h0]
theorem EW1c_szCoreSLa {L : List Core} {left : Int} {x0 y0 : SV} (h0 : x0 = y0) : W1c_szCoreSLa L left x0 = W1c_szCoreSLa L left y0 := by rw [h0]
theorem run_c_szCoreSLa (L : List Core) (left : Int) (k : Nat × Int) : aexec Try.prog (loopAt Try.f159 0) (Lc_szCoreSLa L left k) [Orc.br [Orc.cells (coreF (List.getD L (Prod.fst
 k) default)), Orc.call [Mode.rd, Mode.rd] [] (AV.sv (li (sz (wC (List.getD L (Prod.fst k) default)) (Prod.snd k)))), Orc.br [Orc.ghost (Ghost.sel [] [4]), Orc.out 1] [Orc.ghost
 (Ghost.sel [] [0, 1, 5]), Orc.goto (List.length L - (Prod.fst k + 1)) (Lc_szCoreSLa L left (Prod.fst k + 1, sz (wC (List.getD L (Prod.fst k) default)) (Prod.snd k)))]] [Orc.ghost
 (Ghost.sel [] [1]), Orc.out 0]] (loopK (Ic_szCoreSLa L left) (Yc_szCoreSLa L left) (List.length L - Prod.fst k)) = (List.length (List.map coreC L) ≤ 9223372036854775807 → (decide
 ((↑(Prod.fst k) : Int) < (↑(List.length (List.map coreC L)) : Int)) = true → (0 ≤ (↑(Prod.fst k) : Int) ∧ (List.map coreC L)[Int.toNat (↑(Prod.fst k) : Int)]? = some (coreF
 (List.getD L (Prod.fst k) default))) ∧ P_c_szCore (List.getD L (Prod.fst k) default) (Prod.snd k) ∧ (decide (sz (wC (List.getD L (Prod.fst k) default)) (Prod.snd k) < 0) = true →
 sz (List.length L + sumBy wC L) left = (-1 : Int) ∧ W1c_szCoreSLa L left (li (-1 : Int)) = W1c_szCoreSLa L left (li (-1 : Int))) ∧ (decide (sz (wC (List.getD L (Prod.fst k)
 default)) (Prod.snd k) < 0) = false → rng IntKind.i64 ((↑(Prod.fst k) : Int) + 1) ∧ List.length L - (Prod.fst k + 1) < List.length L - Prod.fst k ∧ Tc_szCoreSLa L left (li
 ((↑(Prod.fst k) : Int) + 1)) (li (sz (wC (List.getD L (Prod.fst k) default)) (Prod.snd k))) = Lc_szCoreSLa L left (Prod.fst k + 1, sz (wC (List.getD L (Prod.fst k) default))
 (Prod.snd k)) ∧ Ic_szCoreSLa L left (List.length L - (Prod.fst k + 1)) (Lc_szCoreSLa L left (Prod.fst k + 1, sz (wC (List.getD L (Prod.fst k) default)) (Prod.snd k))))) ∧ (decide
 ((↑(Prod.fst k) : Int) < (↑(List.length (List.map coreC L)) : Int)) = false → 0 ≤ sz (List.length L + sumBy wC L) left ∧ W0c_szCoreSLa L left (li (Prod.snd k)) = W0c_szCoreSLa L
 left (li (sz (List.length L + sumBy wC L) left)))) := by kernel_rfl
theorem Sc_szCoreSLa (L : List Core) (left : Int) (h0 : 0 ≤ left) (h : left ≤ 2147483647) (ih : ∀ (x : Core), x ∈ L → ∀ (left : Int), 0 ≤ left → left ≤ 2147483647 → P_c_szCore x
 left)  : LoopSem Try.prog (loopAt Try.f159 0) (Ic_szCoreSLa L left) (Yc_szCoreSLa L left) := by
  refine LoopSem.ofHead wide fun k h => ⟨_, _, run_c_szCoreSLa L left k, ?_⟩
  obtain ⟨i, n⟩ := k
  simp only at *
  with_reducible repeat' (first | apply And.intro | exact flatI | exact flatS | exact rowLens | exact ih | (intro; skip) | apply obsN | apply obsC | apply obA | apply obM | apply obB | apply svA | apply tupA | apply lcA | apply lcS | apply svC | apply liC | apply lbC | apply lsC | apply vIc | apply vBc | apply vSc | apply vLc | apply mapC | apply Hc_szCoreSLa | apply Ec_szCoreSLa | apply EW0c_szCoreSLa | apply EW1c_szCoreSLa | apply ih)
  all_goals (try simp only [std] at *)
  all_goals (try (first | with_reducible rfl | omega | assumption | (refine (decide_eq_true ?_).symm; assumption) | (refine (decide_eq_false ?_).symm; assumption) | (refine rowGet ?_; (first | omega | (simp only [std]; omega) | grind)) | (refine getC ?_ rfl; (first | omega | (simp only [std]; omega) | grind)) | (refine fill_step ?_ ?_; (first | omega | (simp only [std]; omega) | grind); (first | rfl | exact (Row.eq _).trans rfl)) | (refine fill_init ?_; (first | rfl | exact (Row.eq _).trans rfl)) | grind [drop_get, sumBy, sz, getD_mem', snocI, snocS, rowSnoc]))
theorem run_c_szCoreS (L : List Core) (left : Int) : aexec Try.prog (Option.getD (Func.body Try.f159) Code.skip) (entry [] [ll (List.map coreC L), li left] 27) [Orc.br [Orc.fin []]
 [Orc.ghost (Ghost.sel [] [0, 1, 5]), Orc.loop (List.length L - 0) (Lc_szCoreSLa L left (0, left - (↑(List.length L) : Int))) (Ic_szCoreSLa L left) [(0 ≤ sz (List.length L + sumBy
 wC L) left, AEx.exit 0, W0c_szCoreSLa L left (li (sz (List.length L + sumBy wC L) left)), [Orc.fin []]), (sz (List.length L + sumBy wC L) left = (-1 : Int), AEx.ret, W1c_szCoreSLa
 L left (li (-1 : Int)), [Orc.fin []])]]] (finK Try.prog [ResultVar.tmp 4] [] (AV.sv (li (sz (List.length L + sumBy wC L) left)))) = (List.length (List.map coreC L) ≤
 9223372036854775807 → rng IntKind.i64 (left - (↑(List.length (List.map coreC L)) : Int)) ∧ (decide (left - (↑(List.length (List.map coreC L)) : Int) < 0) = true → ObsEq [] [] ∧
 AV.sv (li (-1 : Int)) = AV.sv (li (sz (List.length L + sumBy wC L) left))) ∧ (decide (left - (↑(List.length (List.map coreC L)) : Int) < 0) = false → Tc_szCoreSLa L left (li 0)
 (li (left - (↑(List.length (List.map coreC L)) : Int))) = Lc_szCoreSLa L left (0, left - (↑(List.length L) : Int)) ∧ Ic_szCoreSLa L left (List.length L - 0) (Lc_szCoreSLa L left
 (0, left - (↑(List.length L) : Int))) ∧ LoopSem Try.prog (loopAt Try.f159 0) (Ic_szCoreSLa L left) (Yc_szCoreSLa L left) ∧ (Int.NonNeg (sz (List.length L + sumBy wC L) left - 0) →
 ObsEq [] [] ∧ AV.sv (li (sz (List.length L + sumBy wC L) left)) = AV.sv (li (sz (List.length L + sumBy wC L) left))) ∧ (sz (List.length L + sumBy wC L) left = (-1 : Int) → ObsEq
 [] [] ∧ AV.sv (li (-1 : Int)) = AV.sv (li (sz (List.length L + sumBy wC L) left))) ∧ True)) := by kernel_rfl
theorem c_szCoreS (L : List Core) (left : Int) (h0 : 0 ≤ left) (h : left ≤ 2147483647) (ih : ∀ x ∈ L, ∀ (left : Int) (h0 : 0 ≤ left) (h : left ≤ 2147483647), P_c_szCore x left)  :
 P_c_szCoreS L left := by
  refine CallOK.ofRun wide (run_c_szCoreS L left) Try.call159 Try.func159 rfl rfl rfl ?_
  with_reducible repeat' (first | apply And.intro | exact flatI | exact flatS | exact rowLens | exact ih | (intro; skip) | apply obsN | apply obsC | apply obA | apply obM | apply obB | apply svA | apply tupA | apply lcA | apply lcS | apply svC | apply liC | apply lbC | apply lsC | apply vIc | apply vBc | apply vSc | apply vLc | apply mapC | apply Hc_szCoreSLa | apply Ec_szCoreSLa | apply Sc_szCoreSLa | apply EW0c_szCoreSLa | apply EW1c_szCoreSLa)
  all_goals (try simp only [std] at *)
  all_goals (try (first | with_reducible rfl | omega | assumption | (refine (decide_eq_true ?_).symm; assumption) | (refine (decide_eq_false ?_).symm; assumption) | (refine rowGet ?_; (first | omega | (simp only [std]; omega) | grind)) | (refine getC ?_ rfl; (first | omega | (simp only [std]; omega) | grind)) | (refine fill_step ?_ ?_; (first | omega | (simp only [std]; omega) | grind); (first | rfl | exact (Row.eq _).trans rfl)) | (refine fill_init ?_; (first | rfl | exact (Row.eq _).trans rfl)) | grind [sz, snocI, snocS, rowSnoc]))
theorem run_c_szCore_s (x : Core) (left : Int) : aexec Try.prog (Option.getD (Func.body Try.f58) Code.skip) (entry [] [coreA x, li left] 24) [Orc.call [Mode.rd, Mode.rd] [] (AV.sv
 (li (sz (List.length (Core.params x)) left))), Orc.br [Orc.fin []] [Orc.call [Mode.rd, Mode.rd] [] (AV.sv (li (sz (wD (Core.datum x)) (sz (List.length (Core.params x)) left)))),
 Orc.br [Orc.fin []] [Orc.call [Mode.rd, Mode.rd] [] (AV.sv (li (sz (List.length (Core.kids x) + sumBy wC (Core.kids x)) (sz (wD (Core.datum x)) (sz (List.length (Core.params x))
 left))))), Orc.br [Orc.fin []] [Orc.fin []]]]] (finK Try.prog [ResultVar.tmp 4] [] (AV.sv (li (sz (wC x) left)))) = (P_c_szIntS (Core.params x) left ∧ (decide (sz (List.length
 (Core.params x)) left < 0) = true → ObsEq [] [] ∧ AV.sv (li (-1 : Int)) = AV.sv (li (sz (wC x) left))) ∧ (decide (sz (List.length (Core.params x)) left < 0) = false → P_c_szDatum
 (Core.datum x) (sz (List.length (Core.params x)) left) ∧ (decide (sz (wD (Core.datum x)) (sz (List.length (Core.params x)) left) < 0) = true → ObsEq [] [] ∧ AV.sv (li (-1 : Int))
 = AV.sv (li (sz (wC x) left))) ∧ (decide (sz (wD (Core.datum x)) (sz (List.length (Core.params x)) left) < 0) = false → P_c_szCoreS (Core.kids x) (sz (wD (Core.datum x)) (sz
 (List.length (Core.params x)) left)) ∧ (decide (sz (List.length (Core.kids x) + sumBy wC (Core.kids x)) (sz (wD (Core.datum x)) (sz (List.length (Core.params x)) left)) < 0) =
 true → ObsEq [] [] ∧ AV.sv (li (-1 : Int)) = AV.sv (li (sz (wC x) left))) ∧ (decide (sz (List.length (Core.kids x) + sumBy wC (Core.kids x)) (sz (wD (Core.datum x)) (sz
 (List.length (Core.params x)) left)) < 0) = false → ObsEq [] [] ∧ AV.sv (li (sz (List.length (Core.kids x) + sumBy wC (Core.kids x)) (sz (wD (Core.datum x)) (sz (List.length
 (Core.params x)) left)))) = AV.sv (li (sz (wC x) left)))))) := by kernel_rfl
theorem c_szCore_s (x : Core) (left : Int) (h0 : 0 ≤ left) (h : left ≤ 2147483647) (ih : ∀ z ∈ x.kids, ∀ (left : Int) (h0 : 0 ≤ left) (h : left ≤ 2147483647), P_c_szCore z left)  :
 P_c_szCore x left := by
  refine CallOK.ofRun wide (run_c_szCore_s x left) Try.call58 Try.func58 rfl rfl rfl ?_
  with_reducible repeat' (first | apply And.intro | exact flatI | exact flatS | exact rowLens | exact ih | (intro; skip) | apply obsN | apply obsC | apply obA | apply obM | apply obB | apply svA | apply tupA | apply lcA | apply lcS | apply svC | apply liC | apply lbC | apply lsC | apply vIc | apply vBc | apply vSc | apply vLc | apply mapC | apply c_szIntS | apply c_szDatum | apply c_szCoreS | apply ih)
  all_goals (try simp only [std] at *)
  all_goals (try (first | with_reducible rfl | omega | assumption | (refine (decide_eq_true ?_).symm; assumption) | (refine (decide_eq_false ?_).symm; assumption) | (refine rowGet ?_; (first | omega | (simp only [std]; omega) | grind)) | (refine getC ?_ rfl; (first | omega | (simp only [std]; omega) | grind)) | (refine fill_step ?_ ?_; (first | omega | (simp only [std]; omega) | grind); (first | rfl | exact (Row.eq _).trans rfl)) | (refine fill_init ?_; (first | rfl | exact (Row.eq _).trans rfl)) | grind [wC_eq, sz, wS, snocI, snocS, rowSnoc]))
theorem c_szCore (x : Core) : ∀ (left : Int) (h0 : 0 ≤ left) (h : left ≤ 2147483647), P_c_szCore x left := Core.ind (P := fun x => ∀ (left : Int) (h0 : 0 ≤ left) (h : left ≤ 2147483647), P_c_szCore x left) (fun x ih left h0 h => c_szCore_s x left h0 h ih) x
abbrev P_c_szSyntaxS (L : List Syntax) (left : Int) : Prop := CallOK Try.prog 84 [] [ll (L.map syntaxC), li left] [] (.sv (li (sz (L.length + sumBy wY L) left)))
abbrev P_c_szSyntax (x : Syntax) (left : Int) : Prop := CallOK Try.prog 51 [] [syntaxA x, li left] [] (.sv (li (sz (wY x) left)))
def Tc_szSyntaxSLa (L : List Syntax) (left : Int) (x0 : SV) (x1 : SV) : St := St.mk (regsOf 27 [(0, AV.sv (ll (List.map syntaxC L))), (1, AV.sv x1), (5, AV.sv x0)]) [] 0 
def Lc_szSyntaxSLa (L : List Syntax) (left : Int) (k : Nat × Int) : St := Tc_szSyntaxSLa L left (li (↑(Prod.fst k) : Int)) (li (Prod.snd k)) 
def Ic_szSyntaxSLa (L : List Syntax) (left : Int) : Nat → St → Prop := Head (Lc_szSyntaxSLa L left) (fun k => Prod.fst k ≤ List.length L ∧ List.length L ≤ 9223372036854775807 ∧ 0 ≤
 Prod.snd k ∧ Prod.snd k ≤ left ∧ sz (sumBy wY (List.drop (Prod.fst k) L)) (Prod.snd k) = sz (List.length L + sumBy wY L) left) fun k => List.length L - Prod.fst k 
def W0c_szSyntaxSLa (L : List Syntax) (left : Int) (x0 : SV) : St := St.mk (regsOf 27 [(1, AV.sv x0)]) [] 0 
def W1c_szSyntaxSLa (L : List Syntax) (left : Int) (x0 : SV) : St := St.mk (regsOf 27 [(4, AV.sv x0)]) [] 0 
def Yc_szSyntaxSLa (L : List Syntax) (left : Int) : List (Prop × AEx × St) := [(0 ≤ sz (List.length L + sumBy wY L) left, AEx.exit 0, W0c_szSyntaxSLa L left (li (sz (List.length L
 + sumBy wY L) left))), (sz (List.length L + sumBy wY L) left = (-1 : Int), AEx.ret, W1c_szSyntaxSLa L left (li (-1 : Int)))]
theorem Hc_szSyntaxSLa {L : List Syntax} {left : Int} {k : Nat × Int} {m : Nat} (h : (fun k => Prod.fst k ≤ List.length L ∧ List.length L ≤ 9223372036854775807 ∧ 0 ≤ Prod.snd k ∧
 Prod.snd k ≤ left ∧ sz (sumBy wY (List.drop (Prod.fst k) L)) (Prod.snd k) = sz (List.length L + sumBy wY L) left) k) (hm : (fun k => List.length L - Prod.fst k) k = m) :
 Ic_szSyntaxSLa L left m (Lc_szSyntaxSLa L left k) := hm ▸ Head.mk h
theorem Ec_szSyntaxSLa {L : List Syntax} {left : Int} {k : Nat × Int} {x0 : SV} {x1 : SV} (h0 : x0 = (li (↑(Prod.fst k) : Int))) (h1 : x1 = (li (Prod.snd k))) : Tc_szSyntaxSLa L
 left x0 x1 = Lc_szSyntaxSLa L left k := by
  rw [h0, h1]
  rfl
theorem EW0c_szSyntaxSLa {L : List Syntax} {left : Int} {x0 y0 : SV} (h0 : x0 = y0) : W0c_szSyntaxSLa L left x0 = W0c_szSyntaxSLa L left y0 := by rw [h0]
theorem EW1c_szSyntaxSLa {L : List Syntax} {left : Int} {x0 y0 : SV} (h0 : x0 = y0) : W1c_szSyntaxSLa L left x0 = W1c_szSyntaxSLa L left y0 := by rw [h0]
theorem run_c_szSyntaxSLa (L : List Syntax) (left : Int) (k : Nat × Int) : aexec Try.prog (loopAt Try.f84 0) (Lc_szSyntaxSLa L left k) [Orc.br [Orc.cells (syntaxF (List.getD L
 (Prod.fst k) default)), Orc.call [Mode.rd, Mode.rd] [] (AV.sv (li (sz (wY (List.getD L (Prod.fst k) default)) (Prod.snd k)))), Orc.br [Orc.ghost (Ghost.sel [] [4]), Orc.out 1]
 [Orc.ghost (Ghost.sel [] [0, 1, 5]), Orc.goto (List.length L - (Prod.fst k + 1)) (Lc_szSyntaxSLa L left (Prod.fst k + 1, sz (wY (List.getD L (Prod.fst k) default)) (Prod.snd
 k)))]] [Orc.ghost (Ghost.sel [] [1]), Orc.out 0]] (loopK (Ic_szSyntaxSLa L left) (Yc_szSyntaxSLa L left) (List.length L - Prod.fst k)) = (List.length (List.map syntaxC L) ≤
 9223372036854775807 → (decide ((↑(Prod.fst k) : Int) < (↑(List.length (List.map syntaxC L)) : Int)) = true → (0 ≤ (↑(Prod.fst k) : Int) ∧ (List.map syntaxC L)[Int.toNat
 (↑(Prod.fst k) : Int)]? = some (syntaxF (List.getD L (Prod.fst k) default))) ∧ P_c_szSyntax (List.getD L (Prod.fst k) default) (Prod.snd k) ∧ (decide (sz (wY (List.getD L
 (Prod.fst k) default)) (Prod.snd k) < 0) = true → sz (List.length L + sumBy wY L) left = (-1 : Int) ∧ W1c_szSyntaxSLa L left (li (-1 : Int)) = W1c_szSyntaxSLa L left (li (-1 :
 Int))) ∧ (decide (sz (wY (List.getD L (Prod.fst k) default)) (Prod.snd k) < 0) = false → rng IntKind.i64 ((↑(Prod.fst k) : Int) + 1) ∧ List.length L - (Prod.fst k + 1) <
 List.length L - Prod.fst k ∧ Tc_szSyntaxSLa L left (li ((↑(Prod.fst k) : Int) + 1)) (li (sz (wY (List.getD L (Prod.fst k) default)) (Prod.snd k))) = Lc_szSyntaxSLa L left
 (Prod.fst k + 1, sz (wY (List.getD L (Prod.fst k) default)) (Prod.snd k)) ∧ Ic_szSyntaxSLa L left (List.length L - (Prod.fst k + 1)) (Lc_szSyntaxSLa L left (Prod.fst k + 1, sz (wY
 (List.getD L (Prod.fst k) default)) (Prod.snd k))))) ∧ (decide ((↑(Prod.fst k) : Int) < (↑(List.length (List.map syntaxC L)) : Int)) = false → 0 ≤ sz (List.length L + sumBy wY L)
 left ∧ W0c_szSyntaxSLa L left (li (Prod.snd k)) = W0c_szSyntaxSLa L left (li (sz (List.length L + sumBy wY L) left)))) := by kernel_rfl
theorem Sc_szSyntaxSLa (L : List Syntax) (left : Int) (h0 : 0 ≤ left) (h : left ≤ 2147483647) (ih : ∀ (x : Syntax), x ∈ L → ∀ (left : Int), 0 ≤ left → left ≤ 2147483647 →
 P_c_szSyntax x left)  : LoopSem Try.prog (loopAt Try.f84 0) (Ic_szSyntaxSLa L left) (Yc_szSyntaxSLa L left) := by
  refine LoopSem.ofHead wide fun k h => ⟨_, _, run_c_szSyntaxSLa L left k, ?_⟩
  obtain ⟨i, n⟩ := k
  simp only at *
  with_reducible repeat' (first | apply And.intro | exact flatI | exact flatS | exact rowLens | exact ih | (intro; skip) | apply obsN | apply obsC | apply obA | apply obM | apply obB | apply svA | apply tupA | apply lcA | apply lcS | apply svC | apply liC | apply lbC | apply lsC | apply vIc | apply vBc | apply vSc | apply vLc | apply mapC | apply Hc_szSyntaxSLa | apply Ec_szSyntaxSLa | apply EW0c_szSyntaxSLa | apply EW1c_szSyntaxSLa | apply ih)
  all_goals (try simp only [std] at *)
  all_goals (try (first | with_reducible rfl | omega | assumption | (refine (decide_eq_true ?_).symm; assumption) | (refine (decide_eq_false ?_).symm; assumption) | (refine rowGet ?_; (first | omega | (simp only [std]; omega) | grind)) | (refine getC ?_ rfl; (first | omega | (simp only [std]; omega) | grind)) | (refine fill_step ?_ ?_; (first | omega | (simp only [std]; omega) | grind); (first | rfl | exact (Row.eq _).trans rfl)) | (refine fill_init ?_; (first | rfl | exact (Row.eq _).trans rfl)) | grind [drop_get, sumBy, sz, getD_mem', snocI, snocS, rowSnoc]))
theorem run_c_szSyntaxS (L : List Syntax) (left : Int) : aexec Try.prog (Option.getD (Func.body Try.f84) Code.skip) (entry [] [ll (List.map syntaxC L), li left] 27) [Orc.br
 [Orc.fin []] [Orc.ghost (Ghost.sel [] [0, 1, 5]), Orc.loop (List.length L - 0) (Lc_szSyntaxSLa L left (0, left - (↑(List.length L) : Int))) (Ic_szSyntaxSLa L left) [(0 ≤ sz
 (List.length L + sumBy wY L) left, AEx.exit 0, W0c_szSyntaxSLa L left (li (sz (List.length L + sumBy wY L) left)), [Orc.fin []]), (sz (List.length L + sumBy wY L) left = (-1 :
 Int), AEx.ret, W1c_szSyntaxSLa L left (li (-1 : Int)), [Orc.fin []])]]] (finK Try.prog [ResultVar.tmp 4] [] (AV.sv (li (sz (List.length L + sumBy wY L) left)))) = (List.length
 (List.map syntaxC L) ≤ 9223372036854775807 → rng IntKind.i64 (left - (↑(List.length (List.map syntaxC L)) : Int)) ∧ (decide (left - (↑(List.length (List.map syntaxC L)) : Int) <
 0) = true → ObsEq [] [] ∧ AV.sv (li (-1 : Int)) = AV.sv (li (sz (List.length L + sumBy wY L) left))) ∧ (decide (left - (↑(List.length (List.map syntaxC L)) : Int) < 0) = false →
 Tc_szSyntaxSLa L left (li 0) (li (left - (↑(List.length (List.map syntaxC L)) : Int))) = Lc_szSyntaxSLa L left (0, left - (↑(List.length L) : Int)) ∧ Ic_szSyntaxSLa L left
 (List.length L - 0) (Lc_szSyntaxSLa L left (0, left - (↑(List.length L) : Int))) ∧ LoopSem Try.prog (loopAt Try.f84 0) (Ic_szSyntaxSLa L left) (Yc_szSyntaxSLa L left) ∧
 (Int.NonNeg (sz (List.length L + sumBy wY L) left - 0) → ObsEq [] [] ∧ AV.sv (li (sz (List.length L + sumBy wY L) left)) = AV.sv (li (sz (List.length L + sumBy wY L) left))) ∧ (sz
 (List.length L + sumBy wY L) left = (-1 : Int) → ObsEq [] [] ∧ AV.sv (li (-1 : Int)) = AV.sv (li (sz (List.length L + sumBy wY L) left))) ∧ True)) := by kernel_rfl
theorem c_szSyntaxS (L : List Syntax) (left : Int) (h0 : 0 ≤ left) (h : left ≤ 2147483647) (ih : ∀ x ∈ L, ∀ (left : Int) (h0 : 0 ≤ left) (h : left ≤ 2147483647), P_c_szSyntax x
 left)  : P_c_szSyntaxS L left := by
  refine CallOK.ofRun wide (run_c_szSyntaxS L left) Try.call84 Try.func84 rfl rfl rfl ?_
  with_reducible repeat' (first | apply And.intro | exact flatI | exact flatS | exact rowLens | exact ih | (intro; skip) | apply obsN | apply obsC | apply obA | apply obM | apply obB | apply svA | apply tupA | apply lcA | apply lcS | apply svC | apply liC | apply lbC | apply lsC | apply vIc | apply vBc | apply vSc | apply vLc | apply mapC | apply Hc_szSyntaxSLa | apply Ec_szSyntaxSLa | apply Sc_szSyntaxSLa | apply EW0c_szSyntaxSLa | apply EW1c_szSyntaxSLa)
  all_goals (try simp only [std] at *)
  all_goals (try (first | with_reducible rfl | omega | assumption | (refine (decide_eq_true ?_).symm; assumption) | (refine (decide_eq_false ?_).symm; assumption) | (refine rowGet ?_; (first | omega | (simp only [std]; omega) | grind)) | (refine getC ?_ rfl; (first | omega | (simp only [std]; omega) | grind)) | (refine fill_step ?_ ?_; (first | omega | (simp only [std]; omega) | grind); (first | rfl | exact (Row.eq _).trans rfl)) | (refine fill_init ?_; (first | rfl | exact (Row.eq _).trans rfl)) | grind [sz, snocI, snocS, rowSnoc]))
theorem run_c_szSyntax_s (x : Syntax) (left : Int) : aexec Try.prog (Option.getD (Func.body Try.f51) Code.skip) (entry [] [syntaxA x, li left] 25) [Orc.br [Orc.fin []] [Orc.call
 [Mode.rd, Mode.rd] [] (AV.sv (li (sz (List.length (Syntax.scopes x)) (left - (↑(List.length (Array.toList (ByteArray.data (Syntax.text x)))) : Int))))), Orc.br [Orc.fin []]
 [Orc.call [Mode.rd, Mode.rd] [] (AV.sv (li (sz (List.length (Syntax.items x) + sumBy wY (Syntax.items x)) (sz (List.length (Syntax.scopes x)) (left - (↑(List.length (Array.toList
 (ByteArray.data (Syntax.text x)))) : Int)))))), Orc.br [Orc.fin []] [Orc.fin []]]]] (finK Try.prog [ResultVar.tmp 4] [] (AV.sv (li (sz (wY x) left)))) = (List.length (Array.toList
 (ByteArray.data (Syntax.text x))) ≤ 9223372036854775807 → rng IntKind.i64 (left - (↑(List.length (Array.toList (ByteArray.data (Syntax.text x)))) : Int)) ∧ (decide (left -
 (↑(List.length (Array.toList (ByteArray.data (Syntax.text x)))) : Int) < 0) = true → ObsEq [] [] ∧ AV.sv (li (-1 : Int)) = AV.sv (li (sz (wY x) left))) ∧ (decide (left -
 (↑(List.length (Array.toList (ByteArray.data (Syntax.text x)))) : Int) < 0) = false → P_c_szIntS (Syntax.scopes x) (left - (↑(List.length (Array.toList (ByteArray.data
 (Syntax.text x)))) : Int)) ∧ (decide (sz (List.length (Syntax.scopes x)) (left - (↑(List.length (Array.toList (ByteArray.data (Syntax.text x)))) : Int)) < 0) = true → ObsEq [] []
 ∧ AV.sv (li (-1 : Int)) = AV.sv (li (sz (wY x) left))) ∧ (decide (sz (List.length (Syntax.scopes x)) (left - (↑(List.length (Array.toList (ByteArray.data (Syntax.text x)))) :
 Int)) < 0) = false → P_c_szSyntaxS (Syntax.items x) (sz (List.length (Syntax.scopes x)) (left - (↑(List.length (Array.toList (ByteArray.data (Syntax.text x)))) : Int))) ∧ (decide
 (sz (List.length (Syntax.items x) + sumBy wY (Syntax.items x)) (sz (List.length (Syntax.scopes x)) (left - (↑(List.length (Array.toList (ByteArray.data (Syntax.text x)))) : Int)))
 < 0) = true → ObsEq [] [] ∧ AV.sv (li (-1 : Int)) = AV.sv (li (sz (wY x) left))) ∧ (decide (sz (List.length (Syntax.items x) + sumBy wY (Syntax.items x)) (sz (List.length
 (Syntax.scopes x)) (left - (↑(List.length (Array.toList (ByteArray.data (Syntax.text x)))) : Int))) < 0) = false → ObsEq [] [] ∧ AV.sv (li (sz (List.length (Syntax.items x) +
 sumBy wY (Syntax.items x)) (sz (List.length (Syntax.scopes x)) (left - (↑(List.length (Array.toList (ByteArray.data (Syntax.text x)))) : Int))))) = AV.sv (li (sz (wY x) left))))))
 := by kernel_rfl
theorem c_szSyntax_s (x : Syntax) (left : Int) (h0 : 0 ≤ left) (h : left ≤ 2147483647) (ih : ∀ z ∈ x.items, ∀ (left : Int) (h0 : 0 ≤ left) (h : left ≤ 2147483647), P_c_szSyntax z
 left)  : P_c_szSyntax x left := by
  refine CallOK.ofRun wide (run_c_szSyntax_s x left) Try.call51 Try.func51 rfl rfl rfl ?_
  with_reducible repeat' (first | apply And.intro | exact flatI | exact flatS | exact rowLens | exact ih | (intro; skip) | apply obsN | apply obsC | apply obA | apply obM | apply obB | apply svA | apply tupA | apply lcA | apply lcS | apply svC | apply liC | apply lbC | apply lsC | apply vIc | apply vBc | apply vSc | apply vLc | apply mapC | apply c_szIntS | apply c_szSyntaxS | apply ih)
  all_goals (try simp only [std] at *)
  all_goals (try (first | with_reducible rfl | omega | assumption | (refine (decide_eq_true ?_).symm; assumption) | (refine (decide_eq_false ?_).symm; assumption) | (refine rowGet ?_; (first | omega | (simp only [std]; omega) | grind)) | (refine getC ?_ rfl; (first | omega | (simp only [std]; omega) | grind)) | (refine fill_step ?_ ?_; (first | omega | (simp only [std]; omega) | grind); (first | rfl | exact (Row.eq _).trans rfl)) | (refine fill_init ?_; (first | rfl | exact (Row.eq _).trans rfl)) | grind [wY_eq, sz, wS, snocI, snocS, rowSnoc]))
theorem c_szSyntax (x : Syntax) : ∀ (left : Int) (h0 : 0 ≤ left) (h : left ≤ 2147483647), P_c_szSyntax x left := Syntax.ind (P := fun x => ∀ (left : Int) (h0 : 0 ≤ left) (h : left ≤ 2147483647), P_c_szSyntax x left) (fun x ih left h0 h => c_szSyntax_s x left h0 h ih) x
abbrev P_c_szBinding (x : Binding) (left : Int) : Prop := CallOK Try.prog 227 [] [bindingA x, li left] [] (.sv (li (sz (wB x) left)))
theorem run_c_szBinding (x : Binding) (left : Int) : aexec Try.prog (Option.getD (Func.body Try.f227) Code.skip) (entry [] [bindingA x, li left] 19) [Orc.br [Orc.fin []] [Orc.call
 [Mode.rd, Mode.rd] [] (AV.sv (li (sz (List.length (Binding.scopes x)) (left - (↑(List.length (Array.toList (ByteArray.data (Binding.text x)))) : Int))))), Orc.br [Orc.fin []]
 [Orc.fin []]]] (finK Try.prog [ResultVar.tmp 4] [] (AV.sv (li (sz (wB x) left)))) = (List.length (Array.toList (ByteArray.data (Binding.text x))) ≤ 9223372036854775807 → rng
 IntKind.i64 (left - (↑(List.length (Array.toList (ByteArray.data (Binding.text x)))) : Int)) ∧ (decide (left - (↑(List.length (Array.toList (ByteArray.data (Binding.text x)))) :
 Int) < 0) = true → ObsEq [] [] ∧ AV.sv (li (-1 : Int)) = AV.sv (li (sz (wB x) left))) ∧ (decide (left - (↑(List.length (Array.toList (ByteArray.data (Binding.text x)))) : Int) <
 0) = false → P_c_szIntS (Binding.scopes x) (left - (↑(List.length (Array.toList (ByteArray.data (Binding.text x)))) : Int)) ∧ (decide (sz (List.length (Binding.scopes x)) (left -
 (↑(List.length (Array.toList (ByteArray.data (Binding.text x)))) : Int)) < 0) = true → ObsEq [] [] ∧ AV.sv (li (-1 : Int)) = AV.sv (li (sz (wB x) left))) ∧ (decide (sz
 (List.length (Binding.scopes x)) (left - (↑(List.length (Array.toList (ByteArray.data (Binding.text x)))) : Int)) < 0) = false → ObsEq [] [] ∧ AV.sv (li (sz (List.length
 (Binding.scopes x)) (left - (↑(List.length (Array.toList (ByteArray.data (Binding.text x)))) : Int)))) = AV.sv (li (sz (wB x) left))))) := by kernel_rfl
theorem c_szBinding (x : Binding) (left : Int) (h0 : 0 ≤ left) (h : left ≤ 2147483647)  : P_c_szBinding x left := by
  refine CallOK.ofRun wide (run_c_szBinding x left) Try.call227 Try.func227 rfl rfl rfl ?_
  with_reducible repeat' (first | apply And.intro | exact flatI | exact flatS | exact rowLens | (intro; skip) | apply obsN | apply obsC | apply obA | apply obM | apply obB | apply svA | apply tupA | apply lcA | apply lcS | apply svC | apply liC | apply lbC | apply lsC | apply vIc | apply vBc | apply vSc | apply vLc | apply mapC | apply c_szIntS)
  all_goals (try simp only [std] at *)
  all_goals (try (first | with_reducible rfl | omega | assumption | (refine (decide_eq_true ?_).symm; assumption) | (refine (decide_eq_false ?_).symm; assumption) | (refine rowGet ?_; (first | omega | (simp only [std]; omega) | grind)) | (refine getC ?_ rfl; (first | omega | (simp only [std]; omega) | grind)) | (refine fill_step ?_ ?_; (first | omega | (simp only [std]; omega) | grind); (first | rfl | exact (Row.eq _).trans rfl)) | (refine fill_init ?_; (first | rfl | exact (Row.eq _).trans rfl)) | grind [wB_eq, sz, wS, snocI, snocS, rowSnoc]))
abbrev P_c_szBindingS (L : List Binding) (left : Int) : Prop := CallOK Try.prog 132 [] [ll (L.map bindingC), li left] [] (.sv (li (sz (L.length + sumBy wB L) left)))
def Tc_szBindingSLa (L : List Binding) (left : Int) (x0 : SV) (x1 : SV) : St := St.mk (regsOf 27 [(0, AV.sv (ll (List.map bindingC L))), (1, AV.sv x1), (5, AV.sv x0)]) [] 0 
def Lc_szBindingSLa (L : List Binding) (left : Int) (k : Nat × Int) : St := Tc_szBindingSLa L left (li (↑(Prod.fst k) : Int)) (li (Prod.snd k)) 
def Ic_szBindingSLa (L : List Binding) (left : Int) : Nat → St → Prop := Head (Lc_szBindingSLa L left) (fun k => Prod.fst k ≤ List.length L ∧ List.length L ≤ 9223372036854775807 ∧
 0 ≤ Prod.snd k ∧ Prod.snd k ≤ left ∧ sz (sumBy wB (List.drop (Prod.fst k) L)) (Prod.snd k) = sz (List.length L + sumBy wB L) left) fun k => List.length L - Prod.fst k 
def W0c_szBindingSLa (L : List Binding) (left : Int) (x0 : SV) : St := St.mk (regsOf 27 [(1, AV.sv x0)]) [] 0 
def W1c_szBindingSLa (L : List Binding) (left : Int) (x0 : SV) : St := St.mk (regsOf 27 [(4, AV.sv x0)]) [] 0 
def Yc_szBindingSLa (L : List Binding) (left : Int) : List (Prop × AEx × St) := [(0 ≤ sz (List.length L + sumBy wB L) left, AEx.exit 0, W0c_szBindingSLa L left (li (sz (List.length
 L + sumBy wB L) left))), (sz (List.length L + sumBy wB L) left = (-1 : Int), AEx.ret, W1c_szBindingSLa L left (li (-1 : Int)))]
theorem Hc_szBindingSLa {L : List Binding} {left : Int} {k : Nat × Int} {m : Nat} (h : (fun k => Prod.fst k ≤ List.length L ∧ List.length L ≤ 9223372036854775807 ∧ 0 ≤ Prod.snd k ∧
 Prod.snd k ≤ left ∧ sz (sumBy wB (List.drop (Prod.fst k) L)) (Prod.snd k) = sz (List.length L + sumBy wB L) left) k) (hm : (fun k => List.length L - Prod.fst k) k = m) :
 Ic_szBindingSLa L left m (Lc_szBindingSLa L left k) := hm ▸ Head.mk h
theorem Ec_szBindingSLa {L : List Binding} {left : Int} {k : Nat × Int} {x0 : SV} {x1 : SV} (h0 : x0 = (li (↑(Prod.fst k) : Int))) (h1 : x1 = (li (Prod.snd k))) : Tc_szBindingSLa L
 left x0 x1 = Lc_szBindingSLa L left k := by
  rw [h0, h1]
  rfl
theorem EW0c_szBindingSLa {L : List Binding} {left : Int} {x0 y0 : SV} (h0 : x0 = y0) : W0c_szBindingSLa L left x0 = W0c_szBindingSLa L left y0 := by rw [h0]
theorem EW1c_szBindingSLa {L : List Binding} {left : Int} {x0 y0 : SV} (h0 : x0 = y0) : W1c_szBindingSLa L left x0 = W1c_szBindingSLa L left y0 := by rw [h0]
theorem run_c_szBindingSLa (L : List Binding) (left : Int) (k : Nat × Int) : aexec Try.prog (loopAt Try.f132 0) (Lc_szBindingSLa L left k) [Orc.br [Orc.cells (bindingF (List.getD L
 (Prod.fst k) default)), Orc.call [Mode.rd, Mode.rd] [] (AV.sv (li (sz (wB (List.getD L (Prod.fst k) default)) (Prod.snd k)))), Orc.br [Orc.ghost (Ghost.sel [] [4]), Orc.out 1]
 [Orc.ghost (Ghost.sel [] [0, 1, 5]), Orc.goto (List.length L - (Prod.fst k + 1)) (Lc_szBindingSLa L left (Prod.fst k + 1, sz (wB (List.getD L (Prod.fst k) default)) (Prod.snd
 k)))]] [Orc.ghost (Ghost.sel [] [1]), Orc.out 0]] (loopK (Ic_szBindingSLa L left) (Yc_szBindingSLa L left) (List.length L - Prod.fst k)) = (List.length (List.map bindingC L) ≤
 9223372036854775807 → (decide ((↑(Prod.fst k) : Int) < (↑(List.length (List.map bindingC L)) : Int)) = true → (0 ≤ (↑(Prod.fst k) : Int) ∧ (List.map bindingC L)[Int.toNat
 (↑(Prod.fst k) : Int)]? = some (bindingF (List.getD L (Prod.fst k) default))) ∧ P_c_szBinding (List.getD L (Prod.fst k) default) (Prod.snd k) ∧ (decide (sz (wB (List.getD L
 (Prod.fst k) default)) (Prod.snd k) < 0) = true → sz (List.length L + sumBy wB L) left = (-1 : Int) ∧ W1c_szBindingSLa L left (li (-1 : Int)) = W1c_szBindingSLa L left (li (-1 :
 Int))) ∧ (decide (sz (wB (List.getD L (Prod.fst k) default)) (Prod.snd k) < 0) = false → rng IntKind.i64 ((↑(Prod.fst k) : Int) + 1) ∧ List.length L - (Prod.fst k + 1) <
 List.length L - Prod.fst k ∧ Tc_szBindingSLa L left (li ((↑(Prod.fst k) : Int) + 1)) (li (sz (wB (List.getD L (Prod.fst k) default)) (Prod.snd k))) = Lc_szBindingSLa L left
 (Prod.fst k + 1, sz (wB (List.getD L (Prod.fst k) default)) (Prod.snd k)) ∧ Ic_szBindingSLa L left (List.length L - (Prod.fst k + 1)) (Lc_szBindingSLa L left (Prod.fst k + 1, sz
 (wB (List.getD L (Prod.fst k) default)) (Prod.snd k))))) ∧ (decide ((↑(Prod.fst k) : Int) < (↑(List.length (List.map bindingC L)) : Int)) = false → 0 ≤ sz (List.length L + sumBy
 wB L) left ∧ W0c_szBindingSLa L left (li (Prod.snd k)) = W0c_szBindingSLa L left (li (sz (List.length L + sumBy wB L) left)))) := by kernel_rfl
theorem Sc_szBindingSLa (L : List Binding) (left : Int) (h0 : 0 ≤ left) (h : left ≤ 2147483647)  : LoopSem Try.prog (loopAt Try.f132 0) (Ic_szBindingSLa L left) (Yc_szBindingSLa L
 left) := by
  refine LoopSem.ofHead wide fun k h => ⟨_, _, run_c_szBindingSLa L left k, ?_⟩
  obtain ⟨i, n⟩ := k
  simp only at *
  with_reducible repeat' (first | apply And.intro | exact flatI | exact flatS | exact rowLens | (intro; skip) | apply obsN | apply obsC | apply obA | apply obM | apply obB | apply svA | apply tupA | apply lcA | apply lcS | apply svC | apply liC | apply lbC | apply lsC | apply vIc | apply vBc | apply vSc | apply vLc | apply mapC | apply Hc_szBindingSLa | apply Ec_szBindingSLa | apply EW0c_szBindingSLa | apply EW1c_szBindingSLa | apply c_szBinding)
  all_goals (try simp only [std] at *)
  all_goals (try (first | with_reducible rfl | omega | assumption | (refine (decide_eq_true ?_).symm; assumption) | (refine (decide_eq_false ?_).symm; assumption) | (refine rowGet ?_; (first | omega | (simp only [std]; omega) | grind)) | (refine getC ?_ rfl; (first | omega | (simp only [std]; omega) | grind)) | (refine fill_step ?_ ?_; (first | omega | (simp only [std]; omega) | grind); (first | rfl | exact (Row.eq _).trans rfl)) | (refine fill_init ?_; (first | rfl | exact (Row.eq _).trans rfl)) | grind [drop_get, sumBy, sz, getD_mem', snocI, snocS, rowSnoc]))
theorem run_c_szBindingS (L : List Binding) (left : Int) : aexec Try.prog (Option.getD (Func.body Try.f132) Code.skip) (entry [] [ll (List.map bindingC L), li left] 27) [Orc.br
 [Orc.fin []] [Orc.ghost (Ghost.sel [] [0, 1, 5]), Orc.loop (List.length L - 0) (Lc_szBindingSLa L left (0, left - (↑(List.length L) : Int))) (Ic_szBindingSLa L left) [(0 ≤ sz
 (List.length L + sumBy wB L) left, AEx.exit 0, W0c_szBindingSLa L left (li (sz (List.length L + sumBy wB L) left)), [Orc.fin []]), (sz (List.length L + sumBy wB L) left = (-1 :
 Int), AEx.ret, W1c_szBindingSLa L left (li (-1 : Int)), [Orc.fin []])]]] (finK Try.prog [ResultVar.tmp 4] [] (AV.sv (li (sz (List.length L + sumBy wB L) left)))) = (List.length
 (List.map bindingC L) ≤ 9223372036854775807 → rng IntKind.i64 (left - (↑(List.length (List.map bindingC L)) : Int)) ∧ (decide (left - (↑(List.length (List.map bindingC L)) : Int)
 < 0) = true → ObsEq [] [] ∧ AV.sv (li (-1 : Int)) = AV.sv (li (sz (List.length L + sumBy wB L) left))) ∧ (decide (left - (↑(List.length (List.map bindingC L)) : Int) < 0) = false
 → Tc_szBindingSLa L left (li 0) (li (left - (↑(List.length (List.map bindingC L)) : Int))) = Lc_szBindingSLa L left (0, left - (↑(List.length L) : Int)) ∧ Ic_szBindingSLa L left
 (List.length L - 0) (Lc_szBindingSLa L left (0, left - (↑(List.length L) : Int))) ∧ LoopSem Try.prog (loopAt Try.f132 0) (Ic_szBindingSLa L left) (Yc_szBindingSLa L left) ∧
 (Int.NonNeg (sz (List.length L + sumBy wB L) left - 0) → ObsEq [] [] ∧ AV.sv (li (sz (List.length L + sumBy wB L) left)) = AV.sv (li (sz (List.length L + sumBy wB L) left))) ∧ (sz
 (List.length L + sumBy wB L) left = (-1 : Int) → ObsEq [] [] ∧ AV.sv (li (-1 : Int)) = AV.sv (li (sz (List.length L + sumBy wB L) left))) ∧ True)) := by kernel_rfl
theorem c_szBindingS (L : List Binding) (left : Int) (h0 : 0 ≤ left) (h : left ≤ 2147483647)  : P_c_szBindingS L left := by
  refine CallOK.ofRun wide (run_c_szBindingS L left) Try.call132 Try.func132 rfl rfl rfl ?_
  with_reducible repeat' (first | apply And.intro | exact flatI | exact flatS | exact rowLens | (intro; skip) | apply obsN | apply obsC | apply obA | apply obM | apply obB | apply svA | apply tupA | apply lcA | apply lcS | apply svC | apply liC | apply lbC | apply lsC | apply vIc | apply vBc | apply vSc | apply vLc | apply mapC | apply Hc_szBindingSLa | apply Ec_szBindingSLa | apply Sc_szBindingSLa | apply EW0c_szBindingSLa | apply EW1c_szBindingSLa | apply c_szBinding)
  all_goals (try simp only [std] at *)
  all_goals (try (first | with_reducible rfl | omega | assumption | (refine (decide_eq_true ?_).symm; assumption) | (refine (decide_eq_false ?_).symm; assumption) | (refine rowGet ?_; (first | omega | (simp only [std]; omega) | grind)) | (refine getC ?_ rfl; (first | omega | (simp only [std]; omega) | grind)) | (refine fill_step ?_ ?_; (first | omega | (simp only [std]; omega) | grind); (first | rfl | exact (Row.eq _).trans rfl)) | (refine fill_init ?_; (first | rfl | exact (Row.eq _).trans rfl)) | grind [sz, snocI, snocS, rowSnoc]))
abbrev P_c_szRules (x : Rules) (left : Int) : Prop := CallOK Try.prog 93 [] [rulesA x, li left] [] (.sv (li (sz (wR x) left)))
theorem run_c_szRules (x : Rules) (left : Int) : aexec Try.prog (Option.getD (Func.body Try.f93) Code.skip) (entry [] [rulesA x, li left] 24) [Orc.call [Mode.rd, Mode.rd] [] (AV.sv
 (li (sz (List.length (Rules.literals x) + sumBy wY (Rules.literals x)) left))), Orc.br [Orc.fin []] [Orc.call [Mode.rd, Mode.rd] [] (AV.sv (li (sz (List.length (Rules.patterns x)
 + sumBy wY (Rules.patterns x)) (sz (List.length (Rules.literals x) + sumBy wY (Rules.literals x)) left)))), Orc.br [Orc.fin []] [Orc.call [Mode.rd, Mode.rd] [] (AV.sv (li (sz
 (List.length (Rules.templates x) + sumBy wY (Rules.templates x)) (sz (List.length (Rules.patterns x) + sumBy wY (Rules.patterns x)) (sz (List.length (Rules.literals x) + sumBy wY
 (Rules.literals x)) left))))), Orc.br [Orc.fin []] [Orc.fin []]]]] (finK Try.prog [ResultVar.tmp 4] [] (AV.sv (li (sz (wR x) left)))) = (P_c_szSyntaxS (Rules.literals x) left ∧
 (decide (sz (List.length (Rules.literals x) + sumBy wY (Rules.literals x)) left < 0) = true → ObsEq [] [] ∧ AV.sv (li (-1 : Int)) = AV.sv (li (sz (wR x) left))) ∧ (decide (sz
 (List.length (Rules.literals x) + sumBy wY (Rules.literals x)) left < 0) = false → P_c_szSyntaxS (Rules.patterns x) (sz (List.length (Rules.literals x) + sumBy wY (Rules.literals
 x)) left) ∧ (decide (sz (List.length (Rules.patterns x) + sumBy wY (Rules.patterns x)) (sz (List.length (Rules.literals x) + sumBy wY (Rules.literals x)) left) < 0) = true → ObsEq
 [] [] ∧ AV.sv (li (-1 : Int)) = AV.sv (li (sz (wR x) left))) ∧ (decide (sz (List.length (Rules.patterns x) + sumBy wY (Rules.patterns x)) (sz (List.length (Rules.literals x) +
 sumBy wY (Rules.literals x)) left) < 0) = false → P_c_szSyntaxS (Rules.templates x) (sz (List.length (Rules.patterns x) + sumBy wY (Rules.patterns x)) (sz (List.length
 (Rules.literals x) + sumBy wY (Rules.literals x)) left)) ∧ (decide (sz (List.length (Rules.templates x) + sumBy wY (Rules.templates x)) (sz (List.length (Rules.patterns x) + sumBy
 wY (Rules.patterns x)) (sz (List.length (Rules.literals x) + sumBy wY (Rules.literals x)) left)) < 0) = true → ObsEq [] [] ∧ AV.sv (li (-1 : Int)) = AV.sv (li (sz (wR x) left))) ∧
 (decide (sz (List.length (Rules.templates x) + sumBy wY (Rules.templates x)) (sz (List.length (Rules.patterns x) + sumBy wY (Rules.patterns x)) (sz (List.length (Rules.literals x)
 + sumBy wY (Rules.literals x)) left)) < 0) = false → ObsEq [] [] ∧ AV.sv (li (sz (List.length (Rules.templates x) + sumBy wY (Rules.templates x)) (sz (List.length (Rules.patterns
 x) + sumBy wY (Rules.patterns x)) (sz (List.length (Rules.literals x) + sumBy wY (Rules.literals x)) left)))) = AV.sv (li (sz (wR x) left)))))) := by kernel_rfl
theorem c_szRules (x : Rules) (left : Int) (h0 : 0 ≤ left) (h : left ≤ 2147483647)  : P_c_szRules x left := by
  refine CallOK.ofRun wide (run_c_szRules x left) Try.call93 Try.func93 rfl rfl rfl ?_
  with_reducible repeat' (first | apply And.intro | exact flatI | exact flatS | exact rowLens | (intro; skip) | apply obsN | apply obsC | apply obA | apply obM | apply obB | apply svA | apply tupA | apply lcA | apply lcS | apply svC | apply liC | apply lbC | apply lsC | apply vIc | apply vBc | apply vSc | apply vLc | apply mapC | apply c_szSyntaxS | apply c_szSyntax)
  all_goals (try simp only [std] at *)
  all_goals (try (first | with_reducible rfl | omega | assumption | (refine (decide_eq_true ?_).symm; assumption) | (refine (decide_eq_false ?_).symm; assumption) | (refine rowGet ?_; (first | omega | (simp only [std]; omega) | grind)) | (refine getC ?_ rfl; (first | omega | (simp only [std]; omega) | grind)) | (refine fill_step ?_ ?_; (first | omega | (simp only [std]; omega) | grind); (first | rfl | exact (Row.eq _).trans rfl)) | (refine fill_init ?_; (first | rfl | exact (Row.eq _).trans rfl)) | grind [wR_eq, sz, wS, snocI, snocS, rowSnoc]))
abbrev P_c_szRulesS (L : List Rules) (left : Int) : Prop := CallOK Try.prog 133 [] [ll (L.map rulesC), li left] [] (.sv (li (sz (L.length + sumBy wR L) left)))
def Tc_szRulesSLa (L : List Rules) (left : Int) (x0 : SV) (x1 : SV) : St := St.mk (regsOf 27 [(0, AV.sv (ll (List.map rulesC L))), (1, AV.sv x1), (5, AV.sv x0)]) [] 0 
def Lc_szRulesSLa (L : List Rules) (left : Int) (k : Nat × Int) : St := Tc_szRulesSLa L left (li (↑(Prod.fst k) : Int)) (li (Prod.snd k)) 
def Ic_szRulesSLa (L : List Rules) (left : Int) : Nat → St → Prop := Head (Lc_szRulesSLa L left) (fun k => Prod.fst k ≤ List.length L ∧ List.length L ≤ 9223372036854775807 ∧ 0 ≤
 Prod.snd k ∧ Prod.snd k ≤ left ∧ sz (sumBy wR (List.drop (Prod.fst k) L)) (Prod.snd k) = sz (List.length L + sumBy wR L) left) fun k => List.length L - Prod.fst k 
def W0c_szRulesSLa (L : List Rules) (left : Int) (x0 : SV) : St := St.mk (regsOf 27 [(1, AV.sv x0)]) [] 0 
def W1c_szRulesSLa (L : List Rules) (left : Int) (x0 : SV) : St := St.mk (regsOf 27 [(4, AV.sv x0)]) [] 0 
def Yc_szRulesSLa (L : List Rules) (left : Int) : List (Prop × AEx × St) := [(0 ≤ sz (List.length L + sumBy wR L) left, AEx.exit 0, W0c_szRulesSLa L left (li (sz (List.length L +
 sumBy wR L) left))), (sz (List.length L + sumBy wR L) left = (-1 : Int), AEx.ret, W1c_szRulesSLa L left (li (-1 : Int)))]
theorem Hc_szRulesSLa {L : List Rules} {left : Int} {k : Nat × Int} {m : Nat} (h : (fun k => Prod.fst k ≤ List.length L ∧ List.length L ≤ 9223372036854775807 ∧ 0 ≤ Prod.snd k ∧
 Prod.snd k ≤ left ∧ sz (sumBy wR (List.drop (Prod.fst k) L)) (Prod.snd k) = sz (List.length L + sumBy wR L) left) k) (hm : (fun k => List.length L - Prod.fst k) k = m) :
 Ic_szRulesSLa L left m (Lc_szRulesSLa L left k) := hm ▸ Head.mk h
theorem Ec_szRulesSLa {L : List Rules} {left : Int} {k : Nat × Int} {x0 : SV} {x1 : SV} (h0 : x0 = (li (↑(Prod.fst k) : Int))) (h1 : x1 = (li (Prod.snd k))) : Tc_szRulesSLa L left
 x0 x1 = Lc_szRulesSLa L left k := by
  rw [h0, h1]
  rfl
theorem EW0c_szRulesSLa {L : List Rules} {left : Int} {x0 y0 : SV} (h0 : x0 = y0) : W0c_szRulesSLa L left x0 = W0c_szRulesSLa L left y0 := by rw [h0]
theorem EW1c_szRulesSLa {L : List Rules} {left : Int} {x0 y0 : SV} (h0 : x0 = y0) : W1c_szRulesSLa L left x0 = W1c_szRulesSLa L left y0 := by rw [h0]
theorem run_c_szRulesSLa (L : List Rules) (left : Int) (k : Nat × Int) : aexec Try.prog (loopAt Try.f133 0) (Lc_szRulesSLa L left k) [Orc.br [Orc.cells (rulesF (List.getD L
 (Prod.fst k) default)), Orc.call [Mode.rd, Mode.rd] [] (AV.sv (li (sz (wR (List.getD L (Prod.fst k) default)) (Prod.snd k)))), Orc.br [Orc.ghost (Ghost.sel [] [4]), Orc.out 1]
 [Orc.ghost (Ghost.sel [] [0, 1, 5]), Orc.goto (List.length L - (Prod.fst k + 1)) (Lc_szRulesSLa L left (Prod.fst k + 1, sz (wR (List.getD L (Prod.fst k) default)) (Prod.snd k)))]]
 [Orc.ghost (Ghost.sel [] [1]), Orc.out 0]] (loopK (Ic_szRulesSLa L left) (Yc_szRulesSLa L left) (List.length L - Prod.fst k)) = (List.length (List.map rulesC L) ≤
 9223372036854775807 → (decide ((↑(Prod.fst k) : Int) < (↑(List.length (List.map rulesC L)) : Int)) = true → (0 ≤ (↑(Prod.fst k) : Int) ∧ (List.map rulesC L)[Int.toNat (↑(Prod.fst
 k) : Int)]? = some (rulesF (List.getD L (Prod.fst k) default))) ∧ P_c_szRules (List.getD L (Prod.fst k) default) (Prod.snd k) ∧ (decide (sz (wR (List.getD L (Prod.fst k) default))
 (Prod.snd k) < 0) = true → sz (List.length L + sumBy wR L) left = (-1 : Int) ∧ W1c_szRulesSLa L left (li (-1 : Int)) = W1c_szRulesSLa L left (li (-1 : Int))) ∧ (decide (sz (wR
 (List.getD L (Prod.fst k) default)) (Prod.snd k) < 0) = false → rng IntKind.i64 ((↑(Prod.fst k) : Int) + 1) ∧ List.length L - (Prod.fst k + 1) < List.length L - Prod.fst k ∧
 Tc_szRulesSLa L left (li ((↑(Prod.fst k) : Int) + 1)) (li (sz (wR (List.getD L (Prod.fst k) default)) (Prod.snd k))) = Lc_szRulesSLa L left (Prod.fst k + 1, sz (wR (List.getD L
 (Prod.fst k) default)) (Prod.snd k)) ∧ Ic_szRulesSLa L left (List.length L - (Prod.fst k + 1)) (Lc_szRulesSLa L left (Prod.fst k + 1, sz (wR (List.getD L (Prod.fst k) default))
 (Prod.snd k))))) ∧ (decide ((↑(Prod.fst k) : Int) < (↑(List.length (List.map rulesC L)) : Int)) = false → 0 ≤ sz (List.length L + sumBy wR L) left ∧ W0c_szRulesSLa L left (li
 (Prod.snd k)) = W0c_szRulesSLa L left (li (sz (List.length L + sumBy wR L) left)))) := by kernel_rfl
theorem Sc_szRulesSLa (L : List Rules) (left : Int) (h0 : 0 ≤ left) (h : left ≤ 2147483647)  : LoopSem Try.prog (loopAt Try.f133 0) (Ic_szRulesSLa L left) (Yc_szRulesSLa L left) :=
 by
  refine LoopSem.ofHead wide fun k h => ⟨_, _, run_c_szRulesSLa L left k, ?_⟩
  obtain ⟨i, n⟩ := k
  simp only at *
  with_reducible repeat' (first | apply And.intro | exact flatI | exact flatS | exact rowLens | (intro; skip) | apply obsN | apply obsC | apply obA | apply obM | apply obB | apply svA | apply tupA | apply lcA | apply lcS | apply svC | apply liC | apply lbC | apply lsC | apply vIc | apply vBc | apply vSc | apply vLc | apply mapC | apply Hc_szRulesSLa | apply Ec_szRulesSLa | apply EW0c_szRulesSLa | apply EW1c_szRulesSLa | apply c_szRules)
  all_goals (try simp only [std] at *)
  all_goals (try (first | with_reducible rfl | omega | assumption | (refine (decide_eq_true ?_).symm; assumption) | (refine (decide_eq_false ?_).symm; assumption) | (refine rowGet ?_; (first | omega | (simp only [std]; omega) | grind)) | (refine getC ?_ rfl; (first | omega | (simp only [std]; omega) | grind)) | (refine fill_step ?_ ?_; (first | omega | (simp only [std]; omega) | grind); (first | rfl | exact (Row.eq _).trans rfl)) | (refine fill_init ?_; (first | rfl | exact (Row.eq _).trans rfl)) | grind [drop_get, sumBy, sz, getD_mem', snocI, snocS, rowSnoc]))
theorem run_c_szRulesS (L : List Rules) (left : Int) : aexec Try.prog (Option.getD (Func.body Try.f133) Code.skip) (entry [] [ll (List.map rulesC L), li left] 27) [Orc.br [Orc.fin
 []] [Orc.ghost (Ghost.sel [] [0, 1, 5]), Orc.loop (List.length L - 0) (Lc_szRulesSLa L left (0, left - (↑(List.length L) : Int))) (Ic_szRulesSLa L left) [(0 ≤ sz (List.length L +
 sumBy wR L) left, AEx.exit 0, W0c_szRulesSLa L left (li (sz (List.length L + sumBy wR L) left)), [Orc.fin []]), (sz (List.length L + sumBy wR L) left = (-1 : Int), AEx.ret,
 W1c_szRulesSLa L left (li (-1 : Int)), [Orc.fin []])]]] (finK Try.prog [ResultVar.tmp 4] [] (AV.sv (li (sz (List.length L + sumBy wR L) left)))) = (List.length (List.map rulesC L)
 ≤ 9223372036854775807 → rng IntKind.i64 (left - (↑(List.length (List.map rulesC L)) : Int)) ∧ (decide (left - (↑(List.length (List.map rulesC L)) : Int) < 0) = true → ObsEq [] []
 ∧ AV.sv (li (-1 : Int)) = AV.sv (li (sz (List.length L + sumBy wR L) left))) ∧ (decide (left - (↑(List.length (List.map rulesC L)) : Int) < 0) = false → Tc_szRulesSLa L left (li
 0) (li (left - (↑(List.length (List.map rulesC L)) : Int))) = Lc_szRulesSLa L left (0, left - (↑(List.length L) : Int)) ∧ Ic_szRulesSLa L left (List.length L - 0) (Lc_szRulesSLa L
 left (0, left - (↑(List.length L) : Int))) ∧ LoopSem Try.prog (loopAt Try.f133 0) (Ic_szRulesSLa L left) (Yc_szRulesSLa L left) ∧ (Int.NonNeg (sz (List.length L + sumBy wR L) left
 - 0) → ObsEq [] [] ∧ AV.sv (li (sz (List.length L + sumBy wR L) left)) = AV.sv (li (sz (List.length L + sumBy wR L) left))) ∧ (sz (List.length L + sumBy wR L) left = (-1 : Int) →
 ObsEq [] [] ∧ AV.sv (li (-1 : Int)) = AV.sv (li (sz (List.length L + sumBy wR L) left))) ∧ True)) := by kernel_rfl
theorem c_szRulesS (L : List Rules) (left : Int) (h0 : 0 ≤ left) (h : left ≤ 2147483647)  : P_c_szRulesS L left := by
  refine CallOK.ofRun wide (run_c_szRulesS L left) Try.call133 Try.func133 rfl rfl rfl ?_
  with_reducible repeat' (first | apply And.intro | exact flatI | exact flatS | exact rowLens | (intro; skip) | apply obsN | apply obsC | apply obA | apply obM | apply obB | apply svA | apply tupA | apply lcA | apply lcS | apply svC | apply liC | apply lbC | apply lsC | apply vIc | apply vBc | apply vSc | apply vLc | apply mapC | apply Hc_szRulesSLa | apply Ec_szRulesSLa | apply Sc_szRulesSLa | apply EW0c_szRulesSLa | apply EW1c_szRulesSLa | apply c_szRules)
  all_goals (try simp only [std] at *)
  all_goals (try (first | with_reducible rfl | omega | assumption | (refine (decide_eq_true ?_).symm; assumption) | (refine (decide_eq_false ?_).symm; assumption) | (refine rowGet ?_; (first | omega | (simp only [std]; omega) | grind)) | (refine getC ?_ rfl; (first | omega | (simp only [std]; omega) | grind)) | (refine fill_step ?_ ?_; (first | omega | (simp only [std]; omega) | grind); (first | rfl | exact (Row.eq _).trans rfl)) | (refine fill_init ?_; (first | rfl | exact (Row.eq _).trans rfl)) | grind [sz, snocI, snocS, rowSnoc]))
abbrev P_c_szExpander (x : Expander) (left : Int) : Prop := CallOK Try.prog 38 [] [expanderA x, li left] [] (.sv (li (sz (wX x) left)))
theorem run_c_szExpander (x : Expander) (left : Int) : aexec Try.prog (Option.getD (Func.body Try.f38) Code.skip) (entry [] [expanderA x, li left] 18) [Orc.call [Mode.rd, Mode.rd]
 [] (AV.sv (li (sz (List.length (Expander.bindings x) + sumBy wB (Expander.bindings x)) left))), Orc.br [Orc.fin []] [Orc.call [Mode.rd, Mode.rd] [] (AV.sv (li (sz (List.length
 (Expander.macros x) + sumBy wR (Expander.macros x)) (sz (List.length (Expander.bindings x) + sumBy wB (Expander.bindings x)) left)))), Orc.br [Orc.fin []] [Orc.fin []]]] (finK
 Try.prog [ResultVar.tmp 4] [] (AV.sv (li (sz (wX x) left)))) = (P_c_szBindingS (Expander.bindings x) left ∧ (decide (sz (List.length (Expander.bindings x) + sumBy wB
 (Expander.bindings x)) left < 0) = true → ObsEq [] [] ∧ AV.sv (li (-1 : Int)) = AV.sv (li (sz (wX x) left))) ∧ (decide (sz (List.length (Expander.bindings x) + sumBy wB
 (Expander.bindings x)) left < 0) = false → P_c_szRulesS (Expander.macros x) (sz (List.length (Expander.bindings x) + sumBy wB (Expander.bindings x)) left) ∧ (decide (sz
 (List.length (Expander.macros x) + sumBy wR (Expander.macros x)) (sz (List.length (Expander.bindings x) + sumBy wB (Expander.bindings x)) left) < 0) = true → ObsEq [] [] ∧ AV.sv
 (li (-1 : Int)) = AV.sv (li (sz (wX x) left))) ∧ (decide (sz (List.length (Expander.macros x) + sumBy wR (Expander.macros x)) (sz (List.length (Expander.bindings x) + sumBy wB
 (Expander.bindings x)) left) < 0) = false → ObsEq [] [] ∧ AV.sv (li (sz (List.length (Expander.macros x) + sumBy wR (Expander.macros x)) (sz (List.length (Expander.bindings x) +
 sumBy wB (Expander.bindings x)) left))) = AV.sv (li (sz (wX x) left))))) := by kernel_rfl
theorem c_szExpander (x : Expander) (left : Int) (h0 : 0 ≤ left) (h : left ≤ 2147483647)  : P_c_szExpander x left := by
  refine CallOK.ofRun wide (run_c_szExpander x left) Try.call38 Try.func38 rfl rfl rfl ?_
  with_reducible repeat' (first | apply And.intro | exact flatI | exact flatS | exact rowLens | (intro; skip) | apply obsN | apply obsC | apply obA | apply obM | apply obB | apply svA | apply tupA | apply lcA | apply lcS | apply svC | apply liC | apply lbC | apply lsC | apply vIc | apply vBc | apply vSc | apply vLc | apply mapC | apply c_szBindingS | apply c_szRulesS)
  all_goals (try simp only [std] at *)
  all_goals (try (first | with_reducible rfl | omega | assumption | (refine (decide_eq_true ?_).symm; assumption) | (refine (decide_eq_false ?_).symm; assumption) | (refine rowGet ?_; (first | omega | (simp only [std]; omega) | grind)) | (refine getC ?_ rfl; (first | omega | (simp only [std]; omega) | grind)) | (refine fill_step ?_ ?_; (first | omega | (simp only [std]; omega) | grind); (first | rfl | exact (Row.eq _).trans rfl)) | (refine fill_init ?_; (first | rfl | exact (Row.eq _).trans rfl)) | grind [wX_eq, sz, wS, snocI, snocS, rowSnoc]))
abbrev P_c_szExport (x : Export) (left : Int) : Prop := CallOK Try.prog 248 [] [exportA x, li left] [] (.sv (li (sz (wE x) left)))
theorem run_c_szExport (x : Export) (left : Int) : aexec Try.prog (Option.getD (Func.body Try.f248) Code.skip) (entry [] [exportA x, li left] 20) [Orc.br [Orc.fin []] [Orc.br
 [Orc.fin []] [Orc.fin []]]] (finK Try.prog [ResultVar.tmp 4] [] (AV.sv (li (sz (wE x) left)))) = (List.length (Array.toList (ByteArray.data (Export.modul x))) ≤
 9223372036854775807 → rng IntKind.i64 (left - (↑(List.length (Array.toList (ByteArray.data (Export.modul x)))) : Int)) ∧ (decide (left - (↑(List.length (Array.toList
 (ByteArray.data (Export.modul x)))) : Int) < 0) = true → ObsEq [] [] ∧ AV.sv (li (-1 : Int)) = AV.sv (li (sz (wE x) left))) ∧ (decide (left - (↑(List.length (Array.toList
 (ByteArray.data (Export.modul x)))) : Int) < 0) = false → List.length (Array.toList (ByteArray.data (Export.text x))) ≤ 9223372036854775807 → rng IntKind.i64 (left -
 (↑(List.length (Array.toList (ByteArray.data (Export.modul x)))) : Int) - (↑(List.length (Array.toList (ByteArray.data (Export.text x)))) : Int)) ∧ (decide (left - (↑(List.length
 (Array.toList (ByteArray.data (Export.modul x)))) : Int) - (↑(List.length (Array.toList (ByteArray.data (Export.text x)))) : Int) < 0) = true → ObsEq [] [] ∧ AV.sv (li (-1 : Int))
 = AV.sv (li (sz (wE x) left))) ∧ (decide (left - (↑(List.length (Array.toList (ByteArray.data (Export.modul x)))) : Int) - (↑(List.length (Array.toList (ByteArray.data
 (Export.text x)))) : Int) < 0) = false → ObsEq [] [] ∧ AV.sv (li (left - (↑(List.length (Array.toList (ByteArray.data (Export.modul x)))) : Int) - (↑(List.length (Array.toList
 (ByteArray.data (Export.text x)))) : Int))) = AV.sv (li (sz (wE x) left))))) := by kernel_rfl
theorem c_szExport (x : Export) (left : Int) (h0 : 0 ≤ left) (h : left ≤ 2147483647)  : P_c_szExport x left := by
  refine CallOK.ofRun wide (run_c_szExport x left) Try.call248 Try.func248 rfl rfl rfl ?_
  with_reducible repeat' (first | apply And.intro | exact flatI | exact flatS | exact rowLens | (intro; skip) | apply obsN | apply obsC | apply obA | apply obM | apply obB | apply svA | apply tupA | apply lcA | apply lcS | apply svC | apply liC | apply lbC | apply lsC | apply vIc | apply vBc | apply vSc | apply vLc | apply mapC)
  all_goals (try simp only [std] at *)
  all_goals (try (first | with_reducible rfl | omega | assumption | (refine (decide_eq_true ?_).symm; assumption) | (refine (decide_eq_false ?_).symm; assumption) | (refine rowGet ?_; (first | omega | (simp only [std]; omega) | grind)) | (refine getC ?_ rfl; (first | omega | (simp only [std]; omega) | grind)) | (refine fill_step ?_ ?_; (first | omega | (simp only [std]; omega) | grind); (first | rfl | exact (Row.eq _).trans rfl)) | (refine fill_init ?_; (first | rfl | exact (Row.eq _).trans rfl)) | grind [wE_eq, sz, wS, snocI, snocS, rowSnoc]))
abbrev P_c_szExportS (L : List Export) (left : Int) : Prop := CallOK Try.prog 177 [] [ll (L.map exportC), li left] [] (.sv (li (sz (L.length + sumBy wE L) left)))
def Tc_szExportSLa (L : List Export) (left : Int) (x0 : SV) (x1 : SV) : St := St.mk (regsOf 27 [(0, AV.sv (ll (List.map exportC L))), (1, AV.sv x1), (5, AV.sv x0)]) [] 0 
def Lc_szExportSLa (L : List Export) (left : Int) (k : Nat × Int) : St := Tc_szExportSLa L left (li (↑(Prod.fst k) : Int)) (li (Prod.snd k)) 
def Ic_szExportSLa (L : List Export) (left : Int) : Nat → St → Prop := Head (Lc_szExportSLa L left) (fun k => Prod.fst k ≤ List.length L ∧ List.length L ≤ 9223372036854775807 ∧ 0 ≤
 Prod.snd k ∧ Prod.snd k ≤ left ∧ sz (sumBy wE (List.drop (Prod.fst k) L)) (Prod.snd k) = sz (List.length L + sumBy wE L) left) fun k => List.length L - Prod.fst k 
def W0c_szExportSLa (L : List Export) (left : Int) (x0 : SV) : St := St.mk (regsOf 27 [(1, AV.sv x0)]) [] 0 
def W1c_szExportSLa (L : List Export) (left : Int) (x0 : SV) : St := St.mk (regsOf 27 [(4, AV.sv x0)]) [] 0 
def Yc_szExportSLa (L : List Export) (left : Int) : List (Prop × AEx × St) := [(0 ≤ sz (List.length L + sumBy wE L) left, AEx.exit 0, W0c_szExportSLa L left (li (sz (List.length L
 + sumBy wE L) left))), (sz (List.length L + sumBy wE L) left = (-1 : Int), AEx.ret, W1c_szExportSLa L left (li (-1 : Int)))]
theorem Hc_szExportSLa {L : List Export} {left : Int} {k : Nat × Int} {m : Nat} (h : (fun k => Prod.fst k ≤ List.length L ∧ List.length L ≤ 9223372036854775807 ∧ 0 ≤ Prod.snd k ∧
 Prod.snd k ≤ left ∧ sz (sumBy wE (List.drop (Prod.fst k) L)) (Prod.snd k) = sz (List.length L + sumBy wE L) left) k) (hm : (fun k => List.length L - Prod.fst k) k = m) :
 Ic_szExportSLa L left m (Lc_szExportSLa L left k) := hm ▸ Head.mk h
theorem Ec_szExportSLa {L : List Export} {left : Int} {k : Nat × Int} {x0 : SV} {x1 : SV} (h0 : x0 = (li (↑(Prod.fst k) : Int))) (h1 : x1 = (li (Prod.snd k))) : Tc_szExportSLa L
 left x0 x1 = Lc_szExportSLa L left k := by
  rw [h0, h1]
  rfl
theorem EW0c_szExportSLa {L : List Export} {left : Int} {x0 y0 : SV} (h0 : x0 = y0) : W0c_szExportSLa L left x0 = W0c_szExportSLa L left y0 := by rw [h0]
theorem EW1c_szExportSLa {L : List Export} {left : Int} {x0 y0 : SV} (h0 : x0 = y0) : W1c_szExportSLa L left x0 = W1c_szExportSLa L left y0 := by rw [h0]
theorem run_c_szExportSLa (L : List Export) (left : Int) (k : Nat × Int) : aexec Try.prog (loopAt Try.f177 0) (Lc_szExportSLa L left k) [Orc.br [Orc.cells (exportF (List.getD L
 (Prod.fst k) default)), Orc.call [Mode.rd, Mode.rd] [] (AV.sv (li (sz (wE (List.getD L (Prod.fst k) default)) (Prod.snd k)))), Orc.br [Orc.ghost (Ghost.sel [] [4]), Orc.out 1]
 [Orc.ghost (Ghost.sel [] [0, 1, 5]), Orc.goto (List.length L - (Prod.fst k + 1)) (Lc_szExportSLa L left (Prod.fst k + 1, sz (wE (List.getD L (Prod.fst k) default)) (Prod.snd
 k)))]] [Orc.ghost (Ghost.sel [] [1]), Orc.out 0]] (loopK (Ic_szExportSLa L left) (Yc_szExportSLa L left) (List.length L - Prod.fst k)) = (List.length (List.map exportC L) ≤
 9223372036854775807 → (decide ((↑(Prod.fst k) : Int) < (↑(List.length (List.map exportC L)) : Int)) = true → (0 ≤ (↑(Prod.fst k) : Int) ∧ (List.map exportC L)[Int.toNat
 (↑(Prod.fst k) : Int)]? = some (exportF (List.getD L (Prod.fst k) default))) ∧ P_c_szExport (List.getD L (Prod.fst k) default) (Prod.snd k) ∧ (decide (sz (wE (List.getD L
 (Prod.fst k) default)) (Prod.snd k) < 0) = true → sz (List.length L + sumBy wE L) left = (-1 : Int) ∧ W1c_szExportSLa L left (li (-1 : Int)) = W1c_szExportSLa L left (li (-1 :
 Int))) ∧ (decide (sz (wE (List.getD L (Prod.fst k) default)) (Prod.snd k) < 0) = false → rng IntKind.i64 ((↑(Prod.fst k) : Int) + 1) ∧ List.length L - (Prod.fst k + 1) <
 List.length L - Prod.fst k ∧ Tc_szExportSLa L left (li ((↑(Prod.fst k) : Int) + 1)) (li (sz (wE (List.getD L (Prod.fst k) default)) (Prod.snd k))) = Lc_szExportSLa L left
 (Prod.fst k + 1, sz (wE (List.getD L (Prod.fst k) default)) (Prod.snd k)) ∧ Ic_szExportSLa L left (List.length L - (Prod.fst k + 1)) (Lc_szExportSLa L left (Prod.fst k + 1, sz (wE
 (List.getD L (Prod.fst k) default)) (Prod.snd k))))) ∧ (decide ((↑(Prod.fst k) : Int) < (↑(List.length (List.map exportC L)) : Int)) = false → 0 ≤ sz (List.length L + sumBy wE L)
 left ∧ W0c_szExportSLa L left (li (Prod.snd k)) = W0c_szExportSLa L left (li (sz (List.length L + sumBy wE L) left)))) := by kernel_rfl
theorem Sc_szExportSLa (L : List Export) (left : Int) (h0 : 0 ≤ left) (h : left ≤ 2147483647)  : LoopSem Try.prog (loopAt Try.f177 0) (Ic_szExportSLa L left) (Yc_szExportSLa L
 left) := by
  refine LoopSem.ofHead wide fun k h => ⟨_, _, run_c_szExportSLa L left k, ?_⟩
  obtain ⟨i, n⟩ := k
  simp only at *
  with_reducible repeat' (first | apply And.intro | exact flatI | exact flatS | exact rowLens | (intro; skip) | apply obsN | apply obsC | apply obA | apply obM | apply obB | apply svA | apply tupA | apply lcA | apply lcS | apply svC | apply liC | apply lbC | apply lsC | apply vIc | apply vBc | apply vSc | apply vLc | apply mapC | apply Hc_szExportSLa | apply Ec_szExportSLa | apply EW0c_szExportSLa | apply EW1c_szExportSLa | apply c_szExport)
  all_goals (try simp only [std] at *)
  all_goals (try (first | with_reducible rfl | omega | assumption | (refine (decide_eq_true ?_).symm; assumption) | (refine (decide_eq_false ?_).symm; assumption) | (refine rowGet ?_; (first | omega | (simp only [std]; omega) | grind)) | (refine getC ?_ rfl; (first | omega | (simp only [std]; omega) | grind)) | (refine fill_step ?_ ?_; (first | omega | (simp only [std]; omega) | grind); (first | rfl | exact (Row.eq _).trans rfl)) | (refine fill_init ?_; (first | rfl | exact (Row.eq _).trans rfl)) | grind [drop_get, sumBy, sz, getD_mem', snocI, snocS, rowSnoc]))
theorem run_c_szExportS (L : List Export) (left : Int) : aexec Try.prog (Option.getD (Func.body Try.f177) Code.skip) (entry [] [ll (List.map exportC L), li left] 27) [Orc.br
 [Orc.fin []] [Orc.ghost (Ghost.sel [] [0, 1, 5]), Orc.loop (List.length L - 0) (Lc_szExportSLa L left (0, left - (↑(List.length L) : Int))) (Ic_szExportSLa L left) [(0 ≤ sz
 (List.length L + sumBy wE L) left, AEx.exit 0, W0c_szExportSLa L left (li (sz (List.length L + sumBy wE L) left)), [Orc.fin []]), (sz (List.length L + sumBy wE L) left = (-1 :
 Int), AEx.ret, W1c_szExportSLa L left (li (-1 : Int)), [Orc.fin []])]]] (finK Try.prog [ResultVar.tmp 4] [] (AV.sv (li (sz (List.length L + sumBy wE L) left)))) = (List.length
 (List.map exportC L) ≤ 9223372036854775807 → rng IntKind.i64 (left - (↑(List.length (List.map exportC L)) : Int)) ∧ (decide (left - (↑(List.length (List.map exportC L)) : Int) <
 0) = true → ObsEq [] [] ∧ AV.sv (li (-1 : Int)) = AV.sv (li (sz (List.length L + sumBy wE L) left))) ∧ (decide (left - (↑(List.length (List.map exportC L)) : Int) < 0) = false →
 Tc_szExportSLa L left (li 0) (li (left - (↑(List.length (List.map exportC L)) : Int))) = Lc_szExportSLa L left (0, left - (↑(List.length L) : Int)) ∧ Ic_szExportSLa L left
 (List.length L - 0) (Lc_szExportSLa L left (0, left - (↑(List.length L) : Int))) ∧ LoopSem Try.prog (loopAt Try.f177 0) (Ic_szExportSLa L left) (Yc_szExportSLa L left) ∧
 (Int.NonNeg (sz (List.length L + sumBy wE L) left - 0) → ObsEq [] [] ∧ AV.sv (li (sz (List.length L + sumBy wE L) left)) = AV.sv (li (sz (List.length L + sumBy wE L) left))) ∧ (sz
 (List.length L + sumBy wE L) left = (-1 : Int) → ObsEq [] [] ∧ AV.sv (li (-1 : Int)) = AV.sv (li (sz (List.length L + sumBy wE L) left))) ∧ True)) := by kernel_rfl
theorem c_szExportS (L : List Export) (left : Int) (h0 : 0 ≤ left) (h : left ≤ 2147483647)  : P_c_szExportS L left := by
  refine CallOK.ofRun wide (run_c_szExportS L left) Try.call177 Try.func177 rfl rfl rfl ?_
  with_reducible repeat' (first | apply And.intro | exact flatI | exact flatS | exact rowLens | (intro; skip) | apply obsN | apply obsC | apply obA | apply obM | apply obB | apply svA | apply tupA | apply lcA | apply lcS | apply svC | apply liC | apply lbC | apply lsC | apply vIc | apply vBc | apply vSc | apply vLc | apply mapC | apply Hc_szExportSLa | apply Ec_szExportSLa | apply Sc_szExportSLa | apply EW0c_szExportSLa | apply EW1c_szExportSLa | apply c_szExport)
  all_goals (try simp only [std] at *)
  all_goals (try (first | with_reducible rfl | omega | assumption | (refine (decide_eq_true ?_).symm; assumption) | (refine (decide_eq_false ?_).symm; assumption) | (refine rowGet ?_; (first | omega | (simp only [std]; omega) | grind)) | (refine getC ?_ rfl; (first | omega | (simp only [std]; omega) | grind)) | (refine fill_step ?_ ?_; (first | omega | (simp only [std]; omega) | grind); (first | rfl | exact (Row.eq _).trans rfl)) | (refine fill_init ?_; (first | rfl | exact (Row.eq _).trans rfl)) | grind [sz, snocI, snocS, rowSnoc]))
abbrev P_c_szUnit (x : Unit) (left : Int) : Prop := CallOK Try.prog 72 [] [unitA x, li left] [] (.sv (li (sz (wU x) left)))
theorem run_c_szUnit (x : Unit) (left : Int) : aexec Try.prog (Option.getD (Func.body Try.f72) Code.skip) (entry [] [unitA x, li left] 25) [Orc.br [Orc.fin []] [Orc.call [Mode.rd,
 Mode.rd] [] (AV.sv (li (sz (List.length (Unit.globals x)) (left - (↑(List.length (Array.toList (ByteArray.data (Unit.name x)))) : Int))))), Orc.br [Orc.fin []] [Orc.call [Mode.rd,
 Mode.rd] [] (AV.sv (li (sz (wC (Unit.body x)) (sz (List.length (Unit.globals x)) (left - (↑(List.length (Array.toList (ByteArray.data (Unit.name x)))) : Int)))))), Orc.br [Orc.fin
 []] [Orc.fin []]]]] (finK Try.prog [ResultVar.tmp 4] [] (AV.sv (li (sz (wU x) left)))) = (List.length (Array.toList (ByteArray.data (Unit.name x))) ≤ 9223372036854775807 → rng
 IntKind.i64 (left - (↑(List.length (Array.toList (ByteArray.data (Unit.name x)))) : Int)) ∧ (decide (left - (↑(List.length (Array.toList (ByteArray.data (Unit.name x)))) : Int) <
 0) = true → ObsEq [] [] ∧ AV.sv (li (-1 : Int)) = AV.sv (li (sz (wU x) left))) ∧ (decide (left - (↑(List.length (Array.toList (ByteArray.data (Unit.name x)))) : Int) < 0) = false
 → P_c_szIntS (Unit.globals x) (left - (↑(List.length (Array.toList (ByteArray.data (Unit.name x)))) : Int)) ∧ (decide (sz (List.length (Unit.globals x)) (left - (↑(List.length
 (Array.toList (ByteArray.data (Unit.name x)))) : Int)) < 0) = true → ObsEq [] [] ∧ AV.sv (li (-1 : Int)) = AV.sv (li (sz (wU x) left))) ∧ (decide (sz (List.length (Unit.globals
 x)) (left - (↑(List.length (Array.toList (ByteArray.data (Unit.name x)))) : Int)) < 0) = false → P_c_szCore (Unit.body x) (sz (List.length (Unit.globals x)) (left - (↑(List.length
 (Array.toList (ByteArray.data (Unit.name x)))) : Int))) ∧ (decide (sz (wC (Unit.body x)) (sz (List.length (Unit.globals x)) (left - (↑(List.length (Array.toList (ByteArray.data
 (Unit.name x)))) : Int))) < 0) = true → ObsEq [] [] ∧ AV.sv (li (-1 : Int)) = AV.sv (li (sz (wU x) left))) ∧ (decide (sz (wC (Unit.body x)) (sz (List.length (Unit.globals x))
 (left - (↑(List.length (Array.toList (ByteArray.data (Unit.name x)))) : Int))) < 0) = false → ObsEq [] [] ∧ AV.sv (li (sz (wC (Unit.body x)) (sz (List.length (Unit.globals x))
 (left - (↑(List.length (Array.toList (ByteArray.data (Unit.name x)))) : Int))))) = AV.sv (li (sz (wU x) left)))))) := by kernel_rfl
theorem c_szUnit (x : Unit) (left : Int) (h0 : 0 ≤ left) (h : left ≤ 2147483647)  : P_c_szUnit x left := by
  refine CallOK.ofRun wide (run_c_szUnit x left) Try.call72 Try.func72 rfl rfl rfl ?_
  with_reducible repeat' (first | apply And.intro | exact flatI | exact flatS | exact rowLens | (intro; skip) | apply obsN | apply obsC | apply obA | apply obM | apply obB | apply svA | apply tupA | apply lcA | apply lcS | apply svC | apply liC | apply lbC | apply lsC | apply vIc | apply vBc | apply vSc | apply vLc | apply mapC | apply c_szIntS | apply c_szCore)
  all_goals (try simp only [std] at *)
  all_goals (try (first | with_reducible rfl | omega | assumption | (refine (decide_eq_true ?_).symm; assumption) | (refine (decide_eq_false ?_).symm; assumption) | (refine rowGet ?_; (first | omega | (simp only [std]; omega) | grind)) | (refine getC ?_ rfl; (first | omega | (simp only [std]; omega) | grind)) | (refine fill_step ?_ ?_; (first | omega | (simp only [std]; omega) | grind); (first | rfl | exact (Row.eq _).trans rfl)) | (refine fill_init ?_; (first | rfl | exact (Row.eq _).trans rfl)) | grind [wU_eq, sz, wS, snocI, snocS, rowSnoc]))
abbrev P_c_szUnitS (L : List Unit) (left : Int) : Prop := CallOK Try.prog 24 [] [ll (L.map unitC), li left] [] (.sv (li (sz (L.length + sumBy wU L) left)))
def Tc_szUnitSLa (L : List Unit) (left : Int) (x0 : SV) (x1 : SV) : St := St.mk (regsOf 27 [(0, AV.sv (ll (List.map unitC L))), (1, AV.sv x1), (5, AV.sv x0)]) [] 0 
def Lc_szUnitSLa (L : List Unit) (left : Int) (k : Nat × Int) : St := Tc_szUnitSLa L left (li (↑(Prod.fst k) : Int)) (li (Prod.snd k)) 
def Ic_szUnitSLa (L : List Unit) (left : Int) : Nat → St → Prop := Head (Lc_szUnitSLa L left) (fun k => Prod.fst k ≤ List.length L ∧ List.length L ≤ 9223372036854775807 ∧ 0 ≤
 Prod.snd k ∧ Prod.snd k ≤ left ∧ sz (sumBy wU (List.drop (Prod.fst k) L)) (Prod.snd k) = sz (List.length L + sumBy wU L) left) fun k => List.length L - Prod.fst k 
def W0c_szUnitSLa (L : List Unit) (left : Int) (x0 : SV) : St := St.mk (regsOf 27 [(1, AV.sv x0)]) [] 0 
def W1c_szUnitSLa (L : List Unit) (left : Int) (x0 : SV) : St := St.mk (regsOf 27 [(4, AV.sv x0)]) [] 0 
def Yc_szUnitSLa (L : List Unit) (left : Int) : List (Prop × AEx × St) := [(0 ≤ sz (List.length L + sumBy wU L) left, AEx.exit 0, W0c_szUnitSLa L left (li (sz (List.length L +
 sumBy wU L) left))), (sz (List.length L + sumBy wU L) left = (-1 : Int), AEx.ret, W1c_szUnitSLa L left (li (-1 : Int)))]
theorem Hc_szUnitSLa {L : List Unit} {left : Int} {k : Nat × Int} {m : Nat} (h : (fun k => Prod.fst k ≤ List.length L ∧ List.length L ≤ 9223372036854775807 ∧ 0 ≤ Prod.snd k ∧
 Prod.snd k ≤ left ∧ sz (sumBy wU (List.drop (Prod.fst k) L)) (Prod.snd k) = sz (List.length L + sumBy wU L) left) k) (hm : (fun k => List.length L - Prod.fst k) k = m) :
 Ic_szUnitSLa L left m (Lc_szUnitSLa L left k) := hm ▸ Head.mk h
theorem Ec_szUnitSLa {L : List Unit} {left : Int} {k : Nat × Int} {x0 : SV} {x1 : SV} (h0 : x0 = (li (↑(Prod.fst k) : Int))) (h1 : x1 = (li (Prod.snd k))) : Tc_szUnitSLa L left x0
 x1 = Lc_szUnitSLa L left k := by
  rw [h0, h1]
  rfl
theorem EW0c_szUnitSLa {L : List Unit} {left : Int} {x0 y0 : SV} (h0 : x0 = y0) : W0c_szUnitSLa L left x0 = W0c_szUnitSLa L left y0 := by rw [h0]
theorem EW1c_szUnitSLa {L : List Unit} {left : Int} {x0 y0 : SV} (h0 : x0 = y0) : W1c_szUnitSLa L left x0 = W1c_szUnitSLa L left y0 := by rw [h0]
theorem run_c_szUnitSLa (L : List Unit) (left : Int) (k : Nat × Int) : aexec Try.prog (loopAt Try.f24 0) (Lc_szUnitSLa L left k) [Orc.br [Orc.cells (unitF (List.getD L (Prod.fst k)
 default)), Orc.call [Mode.rd, Mode.rd] [] (AV.sv (li (sz (wU (List.getD L (Prod.fst k) default)) (Prod.snd k)))), Orc.br [Orc.ghost (Ghost.sel [] [4]), Orc.out 1] [Orc.ghost
 (Ghost.sel [] [0, 1, 5]), Orc.goto (List.length L - (Prod.fst k + 1)) (Lc_szUnitSLa L left (Prod.fst k + 1, sz (wU (List.getD L (Prod.fst k) default)) (Prod.snd k)))]] [Orc.ghost
 (Ghost.sel [] [1]), Orc.out 0]] (loopK (Ic_szUnitSLa L left) (Yc_szUnitSLa L left) (List.length L - Prod.fst k)) = (List.length (List.map unitC L) ≤ 9223372036854775807 → (decide
 ((↑(Prod.fst k) : Int) < (↑(List.length (List.map unitC L)) : Int)) = true → (0 ≤ (↑(Prod.fst k) : Int) ∧ (List.map unitC L)[Int.toNat (↑(Prod.fst k) : Int)]? = some (unitF
 (List.getD L (Prod.fst k) default))) ∧ P_c_szUnit (List.getD L (Prod.fst k) default) (Prod.snd k) ∧ (decide (sz (wU (List.getD L (Prod.fst k) default)) (Prod.snd k) < 0) = true →
 sz (List.length L + sumBy wU L) left = (-1 : Int) ∧ W1c_szUnitSLa L left (li (-1 : Int)) = W1c_szUnitSLa L left (li (-1 : Int))) ∧ (decide (sz (wU (List.getD L (Prod.fst k)
 default)) (Prod.snd k) < 0) = false → rng IntKind.i64 ((↑(Prod.fst k) : Int) + 1) ∧ List.length L - (Prod.fst k + 1) < List.length L - Prod.fst k ∧ Tc_szUnitSLa L left (li
 ((↑(Prod.fst k) : Int) + 1)) (li (sz (wU (List.getD L (Prod.fst k) default)) (Prod.snd k))) = Lc_szUnitSLa L left (Prod.fst k + 1, sz (wU (List.getD L (Prod.fst k) default))
 (Prod.snd k)) ∧ Ic_szUnitSLa L left (List.length L - (Prod.fst k + 1)) (Lc_szUnitSLa L left (Prod.fst k + 1, sz (wU (List.getD L (Prod.fst k) default)) (Prod.snd k))))) ∧ (decide
 ((↑(Prod.fst k) : Int) < (↑(List.length (List.map unitC L)) : Int)) = false → 0 ≤ sz (List.length L + sumBy wU L) left ∧ W0c_szUnitSLa L left (li (Prod.snd k)) = W0c_szUnitSLa L
 left (li (sz (List.length L + sumBy wU L) left)))) := by kernel_rfl
theorem Sc_szUnitSLa (L : List Unit) (left : Int) (h0 : 0 ≤ left) (h : left ≤ 2147483647)  : LoopSem Try.prog (loopAt Try.f24 0) (Ic_szUnitSLa L left) (Yc_szUnitSLa L left) := by
  refine LoopSem.ofHead wide fun k h => ⟨_, _, run_c_szUnitSLa L left k, ?_⟩
  obtain ⟨i, n⟩ := k
  simp only at *
  with_reducible repeat' (first | apply And.intro | exact flatI | exact flatS | exact rowLens | (intro; skip) | apply obsN | apply obsC | apply obA | apply obM | apply obB | apply svA | apply tupA | apply lcA | apply lcS | apply svC | apply liC | apply lbC | apply lsC | apply vIc | apply vBc | apply vSc | apply vLc | apply mapC | apply Hc_szUnitSLa | apply Ec_szUnitSLa | apply EW0c_szUnitSLa | apply EW1c_szUnitSLa | apply c_szUnit)
  all_goals (try simp only [std] at *)
  all_goals (try (first | with_reducible rfl | omega | assumption | (refine (decide_eq_true ?_).symm; assumption) | (refine (decide_eq_false ?_).symm; assumption) | (refine rowGet ?_; (first | omega | (simp only [std]; omega) | grind)) | (refine getC ?_ rfl; (first | omega | (simp only [std]; omega) | grind)) | (refine fill_step ?_ ?_; (first | omega | (simp only [std]; omega) | grind); (first | rfl | exact (Row.eq _).trans rfl)) | (refine fill_init ?_; (first | rfl | exact (Row.eq _).trans rfl)) | grind [drop_get, sumBy, sz, getD_mem', snocI, snocS, rowSnoc]))
theorem run_c_szUnitS (L : List Unit) (left : Int) : aexec Try.prog (Option.getD (Func.body Try.f24) Code.skip) (entry [] [ll (List.map unitC L), li left] 27) [Orc.br [Orc.fin []]
 [Orc.ghost (Ghost.sel [] [0, 1, 5]), Orc.loop (List.length L - 0) (Lc_szUnitSLa L left (0, left - (↑(List.length L) : Int))) (Ic_szUnitSLa L left) [(0 ≤ sz (List.length L + sumBy
 wU L) left, AEx.exit 0, W0c_szUnitSLa L left (li (sz (List.length L + sumBy wU L) left)), [Orc.fin []]), (sz (List.length L + sumBy wU L) left = (-1 : Int), AEx.ret, W1c_szUnitSLa
 L left (li (-1 : Int)), [Orc.fin []])]]] (finK Try.prog [ResultVar.tmp 4] [] (AV.sv (li (sz (List.length L + sumBy wU L) left)))) = (List.length (List.map unitC L) ≤
 9223372036854775807 → rng IntKind.i64 (left - (↑(List.length (List.map unitC L)) : Int)) ∧ (decide (left - (↑(List.length (List.map unitC L)) : Int) < 0) = true → ObsEq [] [] ∧
 AV.sv (li (-1 : Int)) = AV.sv (li (sz (List.length L + sumBy wU L) left))) ∧ (decide (left - (↑(List.length (List.map unitC L)) : Int) < 0) = false → Tc_szUnitSLa L left (li 0)
 (li (left - (↑(List.length (List.map unitC L)) : Int))) = Lc_szUnitSLa L left (0, left - (↑(List.length L) : Int)) ∧ Ic_szUnitSLa L left (List.length L - 0) (Lc_szUnitSLa L left
 (0, left - (↑(List.length L) : Int))) ∧ LoopSem Try.prog (loopAt Try.f24 0) (Ic_szUnitSLa L left) (Yc_szUnitSLa L left) ∧ (Int.NonNeg (sz (List.length L + sumBy wU L) left - 0) →
 ObsEq [] [] ∧ AV.sv (li (sz (List.length L + sumBy wU L) left)) = AV.sv (li (sz (List.length L + sumBy wU L) left))) ∧ (sz (List.length L + sumBy wU L) left = (-1 : Int) → ObsEq
 [] [] ∧ AV.sv (li (-1 : Int)) = AV.sv (li (sz (List.length L + sumBy wU L) left))) ∧ True)) := by kernel_rfl
theorem c_szUnitS (L : List Unit) (left : Int) (h0 : 0 ≤ left) (h : left ≤ 2147483647)  : P_c_szUnitS L left := by
  refine CallOK.ofRun wide (run_c_szUnitS L left) Try.call24 Try.func24 rfl rfl rfl ?_
  with_reducible repeat' (first | apply And.intro | exact flatI | exact flatS | exact rowLens | (intro; skip) | apply obsN | apply obsC | apply obA | apply obM | apply obB | apply svA | apply tupA | apply lcA | apply lcS | apply svC | apply liC | apply lbC | apply lsC | apply vIc | apply vBc | apply vSc | apply vLc | apply mapC | apply Hc_szUnitSLa | apply Ec_szUnitSLa | apply Sc_szUnitSLa | apply EW0c_szUnitSLa | apply EW1c_szUnitSLa | apply c_szUnit)
  all_goals (try simp only [std] at *)
  all_goals (try (first | with_reducible rfl | omega | assumption | (refine (decide_eq_true ?_).symm; assumption) | (refine (decide_eq_false ?_).symm; assumption) | (refine rowGet ?_; (first | omega | (simp only [std]; omega) | grind)) | (refine getC ?_ rfl; (first | omega | (simp only [std]; omega) | grind)) | (refine fill_step ?_ ?_; (first | omega | (simp only [std]; omega) | grind); (first | rfl | exact (Row.eq _).trans rfl)) | (refine fill_init ?_; (first | rfl | exact (Row.eq _).trans rfl)) | grind [sz, snocI, snocS, rowSnoc]))
abbrev P_c_szWorld (x : World) (left : Int) : Prop := CallOK Try.prog 66 [] [worldA x, li left] [] (.sv (li (sz (wW x) left)))
theorem run_c_szWorld (x : World) (left : Int) : aexec Try.prog (Option.getD (Func.body Try.f66) Code.skip) (entry [] [worldA x, li left] 24) [Orc.call [Mode.rd, Mode.rd] [] (AV.sv
 (li (sz (wX (World.expander x)) left))), Orc.br [Orc.fin []] [Orc.call [Mode.rd, Mode.rd] [] (AV.sv (li (sz (List.length (World.units x) + sumBy wU (World.units x)) (sz (wX
 (World.expander x)) left)))), Orc.br [Orc.fin []] [Orc.call [Mode.rd, Mode.rd] [] (AV.sv (li (sz (List.length (World.exports x) + sumBy wE (World.exports x)) (sz (List.length
 (World.units x) + sumBy wU (World.units x)) (sz (wX (World.expander x)) left))))), Orc.br [Orc.fin []] [Orc.fin []]]]] (finK Try.prog [ResultVar.tmp 4] [] (AV.sv (li (sz (wW x)
 left)))) = (P_c_szExpander (World.expander x) left ∧ (decide (sz (wX (World.expander x)) left < 0) = true → ObsEq [] [] ∧ AV.sv (li (-1 : Int)) = AV.sv (li (sz (wW x) left))) ∧
 (decide (sz (wX (World.expander x)) left < 0) = false → P_c_szUnitS (World.units x) (sz (wX (World.expander x)) left) ∧ (decide (sz (List.length (World.units x) + sumBy wU
 (World.units x)) (sz (wX (World.expander x)) left) < 0) = true → ObsEq [] [] ∧ AV.sv (li (-1 : Int)) = AV.sv (li (sz (wW x) left))) ∧ (decide (sz (List.length (World.units x) +
 sumBy wU (World.units x)) (sz (wX (World.expander x)) left) < 0) = false → P_c_szExportS (World.exports x) (sz (List.length (World.units x) + sumBy wU (World.units x)) (sz (wX
 (World.expander x)) left)) ∧ (decide (sz (List.length (World.exports x) + sumBy wE (World.exports x)) (sz (List.length (World.units x) + sumBy wU (World.units x)) (sz (wX
 (World.expander x)) left)) < 0) = true → ObsEq [] [] ∧ AV.sv (li (-1 : Int)) = AV.sv (li (sz (wW x) left))) ∧ (decide (sz (List.length (World.exports x) + sumBy wE (World.exports
 x)) (sz (List.length (World.units x) + sumBy wU (World.units x)) (sz (wX (World.expander x)) left)) < 0) = false → ObsEq [] [] ∧ AV.sv (li (sz (List.length (World.exports x) +
 sumBy wE (World.exports x)) (sz (List.length (World.units x) + sumBy wU (World.units x)) (sz (wX (World.expander x)) left)))) = AV.sv (li (sz (wW x) left)))))) := by kernel_rfl
theorem c_szWorld (x : World) (left : Int) (h0 : 0 ≤ left) (h : left ≤ 2147483647)  : P_c_szWorld x left := by
  refine CallOK.ofRun wide (run_c_szWorld x left) Try.call66 Try.func66 rfl rfl rfl ?_
  with_reducible repeat' (first | apply And.intro | exact flatI | exact flatS | exact rowLens | (intro; skip) | apply obsN | apply obsC | apply obA | apply obM | apply obB | apply svA | apply tupA | apply lcA | apply lcS | apply svC | apply liC | apply lbC | apply lsC | apply vIc | apply vBc | apply vSc | apply vLc | apply mapC | apply c_szExpander | apply c_szUnitS | apply c_szExportS)
  all_goals (try simp only [std] at *)
  all_goals (try (first | with_reducible rfl | omega | assumption | (refine (decide_eq_true ?_).symm; assumption) | (refine (decide_eq_false ?_).symm; assumption) | (refine rowGet ?_; (first | omega | (simp only [std]; omega) | grind)) | (refine getC ?_ rfl; (first | omega | (simp only [std]; omega) | grind)) | (refine fill_step ?_ ?_; (first | omega | (simp only [std]; omega) | grind); (first | rfl | exact (Row.eq _).trans rfl)) | (refine fill_init ?_; (first | rfl | exact (Row.eq _).trans rfl)) | grind [wW_eq, sz, wS, snocI, snocS, rowSnoc]))
end Go.Proofs.Ytehpjofddjmbpaa
end
section
namespace Go.Proofs.Ytehpjofddjmbpaa
open Go Go.Proofs.Ytehpjofddjmbpaa.Ab
set_option linter.unusedVariables false
set_option linter.unusedSimpArgs false
set_option maxHeartbeats 4000000
abbrev P_c_toIntS (L : List Int) : Prop := CallOK Try.prog 61 [] [ll (L.map intC)] [.arr true 1 (L.map intC)] (.sv (.one (.ref 0)))
def Tc_toIntSLa (L : List Int) (x0 : SV) (x1 : Ob) : St := St.mk (regsOf 22 [(0, AV.sv (ll (List.map intC L))), (3, AV.sv (SV.one (AC.ref 0))), (4, AV.sv x0)]) [x1] 0 
def Lc_toIntSLa (L : List Int) (k : Nat) : St := Tc_toIntSLa L (li (↑k : Int)) (Ob.arr true 1 (List.map intC (fillTo L k))) 
def Ic_toIntSLa (L : List Int) : Nat → St → Prop := Head (Lc_toIntSLa L) (fun k => k ≤ List.length L ∧ List.length L ≤ 9223372036854775807) fun k => List.length L - k 
def W0c_toIntSLa (L : List Int) (x0 : Ob) : St := St.mk (regsOf 22 [(3, AV.sv (SV.one (AC.ref 0)))]) [x0] 0 
def Yc_toIntSLa (L : List Int) : List (Prop × AEx × St) := [(True, AEx.exit 0, W0c_toIntSLa L (Ob.arr true 1 (List.map intC L)))]
theorem Hc_toIntSLa {L : List Int} {k : Nat} {m : Nat} (h : (fun k => k ≤ List.length L ∧ List.length L ≤ 9223372036854775807) k) (hm : (fun k => List.length L - k) k = m) :
 Ic_toIntSLa L m (Lc_toIntSLa L k) := hm ▸ Head.mk h
theorem Ec_toIntSLa {L : List Int} {k : Nat} {x0 : SV} {x1 : Ob} (h0 : x0 = (li (↑k : Int))) (h1 : x1 = (Ob.arr true 1 (List.map intC (fillTo L k)))) : Tc_toIntSLa L x0 x1 =
 Lc_toIntSLa L k := by
  rw [h0, h1]
  rfl
theorem EW0c_toIntSLa {L : List Int} {x0 y0 : Ob} (h0 : x0 = y0) : W0c_toIntSLa L x0 = W0c_toIntSLa L y0 := by rw [h0]
theorem run_c_toIntSLa (L : List Int) (k : Nat) : aexec Try.prog (loopAt Try.f61 0) (Lc_toIntSLa L k) [Orc.br [Orc.cells (intC (List.getD L k default)), Orc.cells (intC (List.getD
 (fillTo L k) (Int.toNat (↑k : Int)) default)), Orc.ghost (Ghost.sel [0] [0, 3, 4]), Orc.goto (List.length L - (k + 1)) (Lc_toIntSLa L (k + 1))] [Orc.ghost (Ghost.sel [0] [3]),
 Orc.out 0]] (loopK (Ic_toIntSLa L) (Yc_toIntSLa L) (List.length L - k)) = (List.length (List.map intC L) ≤ 9223372036854775807 → (decide ((↑k : Int) < (↑(List.length (List.map
 intC L)) : Int)) = true → (0 ≤ (↑k : Int) ∧ (List.map intC L)[Int.toNat (↑k : Int)]? = some [cI (List.getD L k 0)]) ∧ (0 ≤ (↑k : Int) ∧ Int.toNat (↑k : Int) < List.length
 (List.map intC (fillTo L k))) ∧ (List.map intC (fillTo L k))[Int.toNat (↑k : Int)]? = some [cI (List.getD (fillTo L k) (Int.toNat (↑k : Int)) 0)] ∧ rng IntKind.i64 ((↑k : Int) +
 1) ∧ List.length L - (k + 1) < List.length L - k ∧ Tc_toIntSLa L (li ((↑k : Int) + 1)) (Ob.arr true 1 (List.set (List.map intC (fillTo L k)) (Int.toNat (↑k : Int)) [cI (List.getD
 L k 0)])) = Lc_toIntSLa L (k + 1) ∧ Ic_toIntSLa L (List.length L - (k + 1)) (Lc_toIntSLa L (k + 1))) ∧ (decide ((↑k : Int) < (↑(List.length (List.map intC L)) : Int)) = false →
 True ∧ W0c_toIntSLa L (Ob.arr true 1 (List.map intC (fillTo L k))) = W0c_toIntSLa L (Ob.arr true 1 (List.map intC L)))) := by kernel_rfl
theorem Sc_toIntSLa (L : List Int) (h : List.length L ≤ 1048576)  : LoopSem Try.prog (loopAt Try.f61 0) (Ic_toIntSLa L) (Yc_toIntSLa L) := by
  refine LoopSem.ofHead wide fun k h => ⟨_, _, run_c_toIntSLa L k, ?_⟩
  with_reducible repeat' (first | apply And.intro | exact flatI | exact flatS | exact rowLens | (intro; skip) | apply obsN | apply obsC | apply obA | apply obM | apply obB | apply svA | apply tupA | apply lcA | apply lcS | apply svC | apply liC | apply lbC | apply lsC | apply vIc | apply vBc | apply vSc | apply vLc | apply mapC | apply Hc_toIntSLa | apply Ec_toIntSLa | apply EW0c_toIntSLa)
  all_goals (try simp only [std] at *)
  all_goals (try (first | with_reducible rfl | omega | assumption | (refine (decide_eq_true ?_).symm; assumption) | (refine (decide_eq_false ?_).symm; assumption) | (refine rowGet ?_; (first | omega | (simp only [std]; omega) | grind)) | (refine getC ?_ rfl; (first | omega | (simp only [std]; omega) | grind)) | (refine fill_step ?_ ?_; (first | omega | (simp only [std]; omega) | grind); (first | rfl | exact (Row.eq _).trans rfl)) | (refine fill_init ?_; (first | rfl | exact (Row.eq _).trans rfl)) | grind [fillTo_all, snocI, snocS, rowSnoc]))
theorem run_c_toIntS (L : List Int) : aexec Try.prog (Option.getD (Func.body Try.f61) Code.skip) (entry [] [ll (List.map intC L)] 22) [Orc.ghost (Ghost.sel [0] [0, 3, 4]), Orc.loop
 (List.length L - 0) (Lc_toIntSLa L 0) (Ic_toIntSLa L) [(True, AEx.exit 0, W0c_toIntSLa L (Ob.arr true 1 (List.map intC L)), [Orc.fin [0]])]] (finK Try.prog [ResultVar.tmp 2]
 [Ob.arr true 1 (List.map intC L)] (AV.sv (SV.one (AC.ref 0)))) = (List.length (List.map intC L) ≤ 9223372036854775807 → (0 ≤ (↑(List.length (List.map intC L)) : Int) ∧ 8 *
 Int.toNat (↑(List.length (List.map intC L)) : Int) ≤ 281474976710656) ∧ Tc_toIntSLa L (li 0) (Ob.arr true 1 (List.replicate (Int.toNat (↑(List.length (List.map intC L)) : Int))
 [cI 0])) = Lc_toIntSLa L 0 ∧ Ic_toIntSLa L (List.length L - 0) (Lc_toIntSLa L 0) ∧ LoopSem Try.prog (loopAt Try.f61 0) (Ic_toIntSLa L) (Yc_toIntSLa L) ∧ (True → ObsEq [Ob.arr true
 1 (List.map intC L)] [Ob.arr true 1 (List.map intC L)] ∧ AV.sv (SV.one (AC.ref 0)) = AV.sv (SV.one (AC.ref 0))) ∧ True) := by kernel_rfl
theorem c_toIntS (L : List Int) (h : L.length ≤ 1048576)  : P_c_toIntS L := by
  refine CallOK.ofRun wide (run_c_toIntS L) Try.call61 Try.func61 rfl rfl rfl ?_
  with_reducible repeat' (first | apply And.intro | exact flatI | exact flatS | exact rowLens | (intro; skip) | apply obsN | apply obsC | apply obA | apply obM | apply obB | apply svA | apply tupA | apply lcA | apply lcS | apply svC | apply liC | apply lbC | apply lsC | apply vIc | apply vBc | apply vSc | apply vLc | apply mapC | apply Hc_toIntSLa | apply Ec_toIntSLa | apply Sc_toIntSLa | apply EW0c_toIntSLa)
  all_goals (try simp only [std] at *)
  all_goals (try (first | with_reducible rfl | omega | assumption | (refine (decide_eq_true ?_).symm; assumption) | (refine (decide_eq_false ?_).symm; assumption) | (refine rowGet ?_; (first | omega | (simp only [std]; omega) | grind)) | (refine getC ?_ rfl; (first | omega | (simp only [std]; omega) | grind)) | (refine fill_step ?_ ?_; (first | omega | (simp only [std]; omega) | grind); (first | rfl | exact (Row.eq _).trans rfl)) | (refine fill_init ?_; (first | rfl | exact (Row.eq _).trans rfl)) | grind [snocI, snocS, rowSnoc]))
abbrev P_c_toDatumS (L : List Datum) : Prop := CallOK Try.prog 125 [] [ll (L.map datumC)] [.arr true 4 (L.map datumC)] (.sv (.one (.ref 0)))
abbrev P_c_toDatum (x : Datum) : Prop := CallOK Try.prog 44 [] [datumA x] (datumO x) (.sv (datumR x 0))
def Tc_toDatumSLa (L : List Datum) (x0 : SV) (x1 : Ob) : St := St.mk (regsOf 23 [(0, AV.sv (ll (List.map datumC L))), (3, AV.sv (SV.one (AC.ref 0))), (4, AV.sv x0)]) [x1] 0 
def Lc_toDatumSLa (L : List Datum) (k : Nat) : St := Tc_toDatumSLa L (li (↑k : Int)) (Ob.arr true 4 (List.map datumC (fillTo L k))) 
def Ic_toDatumSLa (L : List Datum) : Nat → St → Prop := Head (Lc_toDatumSLa L) (fun k => k ≤ List.length L ∧ List.length L ≤ 9223372036854775807) fun k => List.length L - k 
def W0c_toDatumSLa (L : List Datum) (x0 : Ob) : St := St.mk (regsOf 23 [(3, AV.sv (SV.one (AC.ref 0)))]) [x0] 0 
def Yc_toDatumSLa (L : List Datum) : List (Prop × AEx × St) := [(True, AEx.exit 0, W0c_toDatumSLa L (Ob.arr true 4 (List.map datumC L)))]
theorem Hc_toDatumSLa {L : List Datum} {k : Nat} {m : Nat} (h : (fun k => k ≤ List.length L ∧ List.length L ≤ 9223372036854775807) k) (hm : (fun k => List.length L - k) k = m) :
 Ic_toDatumSLa L m (Lc_toDatumSLa L k) := hm ▸ Head.mk h
theorem Ec_toDatumSLa {L : List Datum} {k : Nat} {x0 : SV} {x1 : Ob} (h0 : x0 = (li (↑k : Int))) (h1 : x1 = (Ob.arr true 4 (List.map datumC (fillTo L k)))) : Tc_toDatumSLa L x0 x1
 = Lc_toDatumSLa L k := by
  rw [h0, h1]
  rfl
theorem EW0c_toDatumSLa {L : List Datum} {x0 y0 : Ob} (h0 : x0 = y0) : W0c_toDatumSLa L x0 = W0c_toDatumSLa L y0 := by rw [h0]
theorem run_c_toDatumSLa (L : List Datum) (k : Nat) : aexec Try.prog (loopAt Try.f125 0) (Lc_toDatumSLa L k) [Orc.br [Orc.cells (datumF (List.getD L k default)), Orc.call [Mode.rd]
 (datumO (List.getD L k default)) (AV.sv (datumR (List.getD L k default) 0)), Orc.cells (datumF (List.getD (fillTo L k) (Int.toNat (↑k : Int)) default)), Orc.ghost (Ghost.sel [0]
 [0, 3, 4]), Orc.goto (List.length L - (k + 1)) (Lc_toDatumSLa L (k + 1))] [Orc.ghost (Ghost.sel [0] [3]), Orc.out 0]] (loopK (Ic_toDatumSLa L) (Yc_toDatumSLa L) (List.length L -
 k)) = (List.length (List.map datumC L) ≤ 9223372036854775807 → (decide ((↑k : Int) < (↑(List.length (List.map datumC L)) : Int)) = true → (0 ≤ (↑k : Int) ∧ (List.map datumC
 L)[Int.toNat (↑k : Int)]? = some (datumF (List.getD L k default))) ∧ P_c_toDatum (List.getD L k default) ∧ (0 ≤ (↑k : Int) ∧ Int.toNat (↑k : Int) < List.length (List.map datumC
 (fillTo L k))) ∧ (List.map datumC (fillTo L k))[Int.toNat (↑k : Int)]? = some (datumF (List.getD (fillTo L k) (Int.toNat (↑k : Int)) default)) ∧ rng IntKind.i64 ((↑k : Int) + 1) ∧
 List.length L - (k + 1) < List.length L - k ∧ Tc_toDatumSLa L (li ((↑k : Int) + 1)) (Ob.arr true 4 (List.set (List.map datumC (fillTo L k)) (Int.toNat (↑k : Int)) (datumF
 (List.getD L k default)))) = Lc_toDatumSLa L (k + 1) ∧ Ic_toDatumSLa L (List.length L - (k + 1)) (Lc_toDatumSLa L (k + 1))) ∧ (decide ((↑k : Int) < (↑(List.length (List.map datumC
 L)) : Int)) = false → True ∧ W0c_toDatumSLa L (Ob.arr true 4 (List.map datumC (fillTo L k))) = W0c_toDatumSLa L (Ob.arr true 4 (List.map datumC L)))) := by kernel_rfl
theorem Sc_toDatumSLa (L : List Datum) (h : List.length L + sumBy wD L ≤ 1048576) (ih : ∀ (x : Datum), x ∈ L → wD x ≤ 1048576 → P_c_toDatum x)  : LoopSem Try.prog (loopAt Try.f125
 0) (Ic_toDatumSLa L) (Yc_toDatumSLa L) := by
  refine LoopSem.ofHead wide fun k h => ⟨_, _, run_c_toDatumSLa L k, ?_⟩
  with_reducible repeat' (first | apply And.intro | exact flatI | exact flatS | exact rowLens | exact ih | (intro; skip) | apply obsN | apply obsC | apply obA | apply obM | apply obB | apply svA | apply tupA | apply lcA | apply lcS | apply svC | apply liC | apply lbC | apply lsC | apply vIc | apply vBc | apply vSc | apply vLc | apply mapC | apply Hc_toDatumSLa | apply Ec_toDatumSLa | apply EW0c_toDatumSLa | apply ih)
  all_goals (try simp only [std] at *)
  all_goals (try (first | with_reducible rfl | omega | assumption | (refine (decide_eq_true ?_).symm; assumption) | (refine (decide_eq_false ?_).symm; assumption) | (refine rowGet ?_; (first | omega | (simp only [std]; omega) | grind)) | (refine getC ?_ rfl; (first | omega | (simp only [std]; omega) | grind)) | (refine fill_step ?_ ?_; (first | omega | (simp only [std]; omega) | grind); (first | rfl | exact (Row.eq _).trans rfl)) | (refine fill_init ?_; (first | rfl | exact (Row.eq _).trans rfl)) | grind [fillTo_all, getD_mem', sumBy_mem, snocI, snocS, rowSnoc]))
theorem run_c_toDatumS (L : List Datum) : aexec Try.prog (Option.getD (Func.body Try.f125) Code.skip) (entry [] [ll (List.map datumC L)] 23) [Orc.ghost (Ghost.sel [0] [0, 3, 4]),
 Orc.loop (List.length L - 0) (Lc_toDatumSLa L 0) (Ic_toDatumSLa L) [(True, AEx.exit 0, W0c_toDatumSLa L (Ob.arr true 4 (List.map datumC L)), [Orc.fin [0]])]] (finK Try.prog
 [ResultVar.tmp 2] [Ob.arr true 4 (List.map datumC L)] (AV.sv (SV.one (AC.ref 0)))) = (List.length (List.map datumC L) ≤ 9223372036854775807 → (0 ≤ (↑(List.length (List.map datumC
 L)) : Int) ∧ 56 * Int.toNat (↑(List.length (List.map datumC L)) : Int) ≤ 281474976710656) ∧ Tc_toDatumSLa L (li 0) (Ob.arr true 4 (List.replicate (Int.toNat (↑(List.length
 (List.map datumC L)) : Int)) [cI 0, cI 0, cS (ByteArray.mk #[]), Cell.list []])) = Lc_toDatumSLa L 0 ∧ Ic_toDatumSLa L (List.length L - 0) (Lc_toDatumSLa L 0) ∧ LoopSem Try.prog
 (loopAt Try.f125 0) (Ic_toDatumSLa L) (Yc_toDatumSLa L) ∧ (True → ObsEq [Ob.arr true 4 (List.map datumC L)] [Ob.arr true 4 (List.map datumC L)] ∧ AV.sv (SV.one (AC.ref 0)) = AV.sv
 (SV.one (AC.ref 0))) ∧ True) := by kernel_rfl
theorem c_toDatumS (L : List Datum) (h : L.length + sumBy wD L ≤ 1048576) (ih : ∀ x ∈ L, ∀ (h : wD x ≤ 1048576), P_c_toDatum x)  : P_c_toDatumS L := by
  refine CallOK.ofRun wide (run_c_toDatumS L) Try.call125 Try.func125 rfl rfl rfl ?_
  with_reducible repeat' (first | apply And.intro | exact flatI | exact flatS | exact rowLens | exact ih | (intro; skip) | apply obsN | apply obsC | apply obA | apply obM | apply obB | apply svA | apply tupA | apply lcA | apply lcS | apply svC | apply liC | apply lbC | apply lsC | apply vIc | apply vBc | apply vSc | apply vLc | apply mapC | apply Hc_toDatumSLa | apply Ec_toDatumSLa | apply Sc_toDatumSLa | apply EW0c_toDatumSLa)
  all_goals (try simp only [std] at *)
  all_goals (try (first | with_reducible rfl | omega | assumption | (refine (decide_eq_true ?_).symm; assumption) | (refine (decide_eq_false ?_).symm; assumption) | (refine rowGet ?_; (first | omega | (simp only [std]; omega) | grind)) | (refine getC ?_ rfl; (first | omega | (simp only [std]; omega) | grind)) | (refine fill_step ?_ ?_; (first | omega | (simp only [std]; omega) | grind); (first | rfl | exact (Row.eq _).trans rfl)) | (refine fill_init ?_; (first | rfl | exact (Row.eq _).trans rfl)) | grind [snocI, snocS, rowSnoc]))
theorem run_c_toDatum_s (x : Datum) : aexec Try.prog (Option.getD (Func.body Try.f44) Code.skip) (entry [] [datumA x] 18) [Orc.call [Mode.rd] [Ob.arr true 4 (List.map datumC
 (Datum.items x))] (AV.sv (SV.one (AC.ref 0))), Orc.fin [3]] (finK Try.prog [ResultVar.cell 2 66] (datumO x) (AV.sv (datumR x 0))) = (P_c_toDatumS (Datum.items x) ∧ ObsEq [Ob.arr
 true 4 (List.map datumC (Datum.items x))] [Ob.arr true 4 (List.map datumC (Datum.items x))] ∧ AV.sv (SV.agg [vI (Datum.kind x), vI (Datum.number x), vS (Datum.text x), AC.ref 0])
 = AV.sv (SV.agg [vI (Datum.kind x), vI (Datum.number x), vS (Datum.text x), AC.ref 0])) := by kernel_rfl
theorem c_toDatum_s (x : Datum) (h : wD x ≤ 1048576) (ih : ∀ z ∈ x.items, ∀ (h : wD z ≤ 1048576), P_c_toDatum z)  : P_c_toDatum x := by
  refine CallOK.ofRun wide (run_c_toDatum_s x) Try.call44 Try.func44 rfl rfl rfl ?_
  with_reducible repeat' (first | apply And.intro | exact flatI | exact flatS | exact rowLens | exact ih | (intro; skip) | apply obsN | apply obsC | apply obA | apply obM | apply obB | apply svA | apply tupA | apply lcA | apply lcS | apply svC | apply liC | apply lbC | apply lsC | apply vIc | apply vBc | apply vSc | apply vLc | apply mapC | apply c_toDatumS | apply ih)
  all_goals (try simp only [std] at *)
  all_goals (try (first | with_reducible rfl | omega | assumption | (refine (decide_eq_true ?_).symm; assumption) | (refine (decide_eq_false ?_).symm; assumption) | (refine rowGet ?_; (first | omega | (simp only [std]; omega) | grind)) | (refine getC ?_ rfl; (first | omega | (simp only [std]; omega) | grind)) | (refine fill_step ?_ ?_; (first | omega | (simp only [std]; omega) | grind); (first | rfl | exact (Row.eq _).trans rfl)) | (refine fill_init ?_; (first | rfl | exact (Row.eq _).trans rfl)) | grind [wD_eq, wS, snocI, snocS, rowSnoc]))
theorem c_toDatum (x : Datum) : ∀ (h : wD x ≤ 1048576), P_c_toDatum x := Datum.ind (P := fun x => ∀ (h : wD x ≤ 1048576), P_c_toDatum x) (fun x ih h => c_toDatum_s x h ih) x
abbrev P_c_toCoreS (L : List Core) : Prop := CallOK Try.prog 167 [] [ll (L.map coreC)] [.arr true 8 (L.map coreC)] (.sv (.one (.ref 0)))
abbrev P_c_toCore (x : Core) : Prop := CallOK Try.prog 60 [] [coreA x] (coreO x) (.sv (coreR x 0))
def Tc_toCoreSLa (L : List Core) (x0 : SV) (x1 : Ob) : St := St.mk (regsOf 23 [(0, AV.sv (ll (List.map coreC L))), (3, AV.sv (SV.one (AC.ref 0))), (4, AV.sv x0)]) [x1] 0 
def Lc_toCoreSLa (L : List Core) (k : Nat) : St := Tc_toCoreSLa L (li (↑k : Int)) (Ob.arr true 8 (List.map coreC (fillTo L k))) 
def Ic_toCoreSLa (L : List Core) : Nat → St → Prop := Head (Lc_toCoreSLa L) (fun k => k ≤ List.length L ∧ List.length L ≤ 9223372036854775807) fun k => List.length L - k 
def W0c_toCoreSLa (L : List Core) (x0 : Ob) : St := St.mk (regsOf 23 [(3, AV.sv (SV.one (AC.ref 0)))]) [x0] 0 
def Yc_toCoreSLa (L : List Core) : List (Prop × AEx × St) := [(True, AEx.exit 0, W0c_toCoreSLa L (Ob.arr true 8 (List.map coreC L)))]
theorem Hc_toCoreSLa {L : List Core} {k : Nat} {m : Nat} (h : (fun k => k ≤ List.length L ∧ List.length L ≤ 9223372036854775807) k) (hm : (fun k => List.length L - k) k = m) :
 Ic_toCoreSLa L m (Lc_toCoreSLa L k) := hm ▸ Head.mk h
theorem Ec_toCoreSLa {L : List Core} {k : Nat} {x0 : SV} {x1 : Ob} (h0 : x0 = (li (↑k : Int))) (h1 : x1 = (Ob.arr true 8 (List.map coreC (fillTo L k)))) : Tc_toCoreSLa L x0 x1 =
 Lc_toCoreSLa L k := by
  rw [h0, h1]
  rfl
theorem EW0c_toCoreSLa {L : List Core} {x0 y0 : Ob} (h0 : x0 = y0) : W0c_toCoreSLa L x0 = W0c_toCoreSLa L y0 := by rw [h0]
theorem run_c_toCoreSLa (L : List Core) (k : Nat) : aexec Try.prog (loopAt Try.f167 0) (Lc_toCoreSLa L k) [Orc.br [Orc.cells (coreF (List.getD L k default)), Orc.call [Mode.rd]
 (coreO (List.getD L k default)) (AV.sv (coreR (List.getD L k default) 0)), Orc.cells (coreF (List.getD (fillTo L k) (Int.toNat (↑k : Int)) default)), Orc.ghost (Ghost.sel [0] [0,
 3, 4]), Orc.goto (List.length L - (k + 1)) (Lc_toCoreSLa L (k + 1))] [Orc.ghost (Ghost.sel [0] [3]), Orc.out 0]] (loopK (Ic_toCoreSLa L) (Yc_toCoreSLa L) (List.length L - k)) =
 (List.length (List.map coreC L) ≤ 9223372036854775807 → (decide ((↑k : Int) < (↑(List.length (List.map coreC L)) : Int)) = true → (0 ≤ (↑k : Int) ∧ (List.map coreC L)[Int.toNat
 (↑k : Int)]? = some (coreF (List.getD L k default))) ∧ P_c_toCore (List.getD L k default) ∧ (0 ≤ (↑k : Int) ∧ Int.toNat (↑k : Int) < List.length (List.map coreC (fillTo L k))) ∧
 (List.map coreC (fillTo L k))[Int.toNat (↑k : Int)]? = some (coreF (List.getD (fillTo L k) (Int.toNat (↑k : Int)) default)) ∧ rng IntKind.i64 ((↑k : Int) + 1) ∧ List.length L - (k
 + 1) < List.length L - k ∧ Tc_toCoreSLa L (li ((↑k : Int) + 1)) (Ob.arr true 8 (List.set (List.map coreC (fillTo L k)) (Int.toNat (↑k : Int)) (coreF (List.getD L k default)))) =
 Lc_toCoreSLa L (k + 1) ∧ Ic_toCoreSLa L (List.length L - (k + 1)) (Lc_toCoreSLa L (k + 1))) ∧ (decide ((↑k : Int) < (↑(List.length (List.map coreC L)) : Int)) = false → True ∧
 W0c_toCoreSLa L (Ob.arr true 8 (List.map coreC (fillTo L k))) = W0c_toCoreSLa L (Ob.arr true 8 (List.map coreC L)))) := by kernel_rfl
theorem Sc_toCoreSLa (L : List Core) (h : List.length L + sumBy wC L ≤ 1048576) (ih : ∀ (x : Core), x ∈ L → wC x ≤ 1048576 → P_c_toCore x)  : LoopSem Try.prog (loopAt Try.f167 0)
 (Ic_toCoreSLa L) (Yc_toCoreSLa L) := by
  refine LoopSem.ofHead wide fun k h => ⟨_, _, run_c_toCoreSLa L k, ?_⟩
  with_reducible repeat' (first | apply And.intro | exact flatI | exact flatS | exact rowLens | exact ih | (intro; skip) | apply obsN | apply obsC | apply obA | apply obM | apply obB | apply svA | apply tupA | apply lcA | apply lcS | apply svC | apply liC | apply lbC | apply lsC | apply vIc | apply vBc | apply vSc | apply vLc | apply mapC | apply Hc_toCoreSLa | apply Ec_toCoreSLa | apply EW0c_toCoreSLa | apply ih)
  all_goals (try simp only [std] at *)
  all_goals (try (first | with_reducible rfl | omega | assumption | (refine (decide_eq_true ?_).symm; assumption) | (refine (decide_eq_false ?_).symm; assumption) | (refine rowGet ?_; (first | omega | (simp only [std]; omega) | grind)) | (refine getC ?_ rfl; (first | omega | (simp only [std]; omega) | grind)) | (refine fill_step ?_ ?_; (first | omega | (simp only [std]; omega) | grind); (first | rfl | exact (Row.eq _).trans rfl)) | (refine fill_init ?_; (first | rfl | exact (Row.eq _).trans rfl)) | grind [fillTo_all, getD_mem', sumBy_mem, snocI, snocS, rowSnoc]))
theorem run_c_toCoreS (L : List Core) : aexec Try.prog (Option.getD (Func.body Try.f167) Code.skip) (entry [] [ll (List.map coreC L)] 23) [Orc.ghost (Ghost.sel [0] [0, 3, 4]),
 Orc.loop (List.length L - 0) (Lc_toCoreSLa L 0) (Ic_toCoreSLa L) [(True, AEx.exit 0, W0c_toCoreSLa L (Ob.arr true 8 (List.map coreC L)), [Orc.fin [0]])]] (finK Try.prog
 [ResultVar.tmp 2] [Ob.arr true 8 (List.map coreC L)] (AV.sv (SV.one (AC.ref 0)))) = (List.length (List.map coreC L) ≤ 9223372036854775807 → (0 ≤ (↑(List.length (List.map coreC L))
 : Int) ∧ 120 * Int.toNat (↑(List.length (List.map coreC L)) : Int) ≤ 281474976710656) ∧ Tc_toCoreSLa L (li 0) (Ob.arr true 8 (List.replicate (Int.toNat (↑(List.length (List.map
 coreC L)) : Int)) [cI 0, cI 0, Cell.list [], cI 0, cI 0, cS (ByteArray.mk #[]), Cell.list [], Cell.list []])) = Lc_toCoreSLa L 0 ∧ Ic_toCoreSLa L (List.length L - 0) (Lc_toCoreSLa
 L 0) ∧ LoopSem Try.prog (loopAt Try.f167 0) (Ic_toCoreSLa L) (Yc_toCoreSLa L) ∧ (True → ObsEq [Ob.arr true 8 (List.map coreC L)] [Ob.arr true 8 (List.map coreC L)] ∧ AV.sv (SV.one
 (AC.ref 0)) = AV.sv (SV.one (AC.ref 0))) ∧ True) := by kernel_rfl
theorem c_toCoreS (L : List Core) (h : L.length + sumBy wC L ≤ 1048576) (ih : ∀ x ∈ L, ∀ (h : wC x ≤ 1048576), P_c_toCore x)  : P_c_toCoreS L := by
  refine CallOK.ofRun wide (run_c_toCoreS L) Try.call167 Try.func167 rfl rfl rfl ?_
  with_reducible repeat' (first | apply And.intro | exact flatI | exact flatS | exact rowLens | exact ih | (intro; skip) | apply obsN | apply obsC | apply obA | apply obM | apply obB | apply svA | apply tupA | apply lcA | apply lcS | apply svC | apply liC | apply lbC | apply lsC | apply vIc | apply vBc | apply vSc | apply vLc | apply mapC | apply Hc_toCoreSLa | apply Ec_toCoreSLa | apply Sc_toCoreSLa | apply EW0c_toCoreSLa)
  all_goals (try simp only [std] at *)
  all_goals (try (first | with_reducible rfl | omega | assumption | (refine (decide_eq_true ?_).symm; assumption) | (refine (decide_eq_false ?_).symm; assumption) | (refine rowGet ?_; (first | omega | (simp only [std]; omega) | grind)) | (refine getC ?_ rfl; (first | omega | (simp only [std]; omega) | grind)) | (refine fill_step ?_ ?_; (first | omega | (simp only [std]; omega) | grind); (first | rfl | exact (Row.eq _).trans rfl)) | (refine fill_init ?_; (first | rfl | exact (Row.eq _).trans rfl)) | grind [snocI, snocS, rowSnoc]))
theorem run_c_toCore_s (x : Core) : aexec Try.prog (Option.getD (Func.body Try.f60) Code.skip) (entry [] [coreA x] 23) [Orc.call [Mode.rd] [Ob.arr true 1 (List.map intC
 (Core.params x))] (AV.sv (SV.one (AC.ref 0))), Orc.call [Mode.rd] (datumO (Core.datum x)) (AV.sv (datumR (Core.datum x) 0)), Orc.call [Mode.rd] [Ob.arr true 8 (List.map coreC
 (Core.kids x))] (AV.sv (SV.one (AC.ref 0))), Orc.fin [3, 4, 5]] (finK Try.prog [ResultVar.cell 2 95] (coreO x) (AV.sv (coreR x 0))) = (P_c_toIntS (Core.params x) ∧ P_c_toDatum
 (Core.datum x) ∧ P_c_toCoreS (Core.kids x) ∧ ObsEq [Ob.arr true 1 (List.map intC (Core.params x)), Ob.arr true 4 (List.map datumC (Datum.items (Core.datum x))), Ob.arr true 8
 (List.map coreC (Core.kids x))] [Ob.arr true 1 (List.map intC (Core.params x)), Ob.arr true 4 (List.map datumC (Datum.items (Core.datum x))), Ob.arr true 8 (List.map coreC
 (Core.kids x))] ∧ AV.sv (SV.agg [vI (Core.kind x), vI (Core.number x), AC.ref 0, vI (Datum.kind (Core.datum x)), vI (Datum.number (Core.datum x)), vS (Datum.text (Core.datum x)),
 AC.ref 1, AC.ref 2]) = AV.sv (SV.agg [vI (Core.kind x), vI (Core.number x), AC.ref 0, vI (Datum.kind (Core.datum x)), vI (Datum.number (Core.datum x)), vS (Datum.text (Core.datum
 x)), AC.ref 1, AC.ref 2])) := by kernel_rfl
theorem c_toCore_s (x : Core) (h : wC x ≤ 1048576) (ih : ∀ z ∈ x.kids, ∀ (h : wC z ≤ 1048576), P_c_toCore z)  : P_c_toCore x := by
  refine CallOK.ofRun wide (run_c_toCore_s x) Try.call60 Try.func60 rfl rfl rfl ?_
  with_reducible repeat' (first | apply And.intro | exact flatI | exact flatS | exact rowLens | exact ih | (intro; skip) | apply obsN | apply obsC | apply obA | apply obM | apply obB | apply svA | apply tupA | apply lcA | apply lcS | apply svC | apply liC | apply lbC | apply lsC | apply vIc | apply vBc | apply vSc | apply vLc | apply mapC | apply c_toIntS | apply c_toDatum | apply c_toCoreS | apply ih)
  all_goals (try simp only [std] at *)
  all_goals (try (first | with_reducible rfl | omega | assumption | (refine (decide_eq_true ?_).symm; assumption) | (refine (decide_eq_false ?_).symm; assumption) | (refine rowGet ?_; (first | omega | (simp only [std]; omega) | grind)) | (refine getC ?_ rfl; (first | omega | (simp only [std]; omega) | grind)) | (refine fill_step ?_ ?_; (first | omega | (simp only [std]; omega) | grind); (first | rfl | exact (Row.eq _).trans rfl)) | (refine fill_init ?_; (first | rfl | exact (Row.eq _).trans rfl)) | grind [wC_eq, wS, snocI, snocS, rowSnoc]))
theorem c_toCore (x : Core) : ∀ (h : wC x ≤ 1048576), P_c_toCore x := Core.ind (P := fun x => ∀ (h : wC x ≤ 1048576), P_c_toCore x) (fun x ih h => c_toCore_s x h ih) x
abbrev P_c_toSyntaxS (L : List Syntax) : Prop := CallOK Try.prog 86 [] [ll (L.map syntaxC)] [.arr true 5 (L.map syntaxC)] (.sv (.one (.ref 0)))
abbrev P_c_toSyntax (x : Syntax) : Prop := CallOK Try.prog 54 [] [syntaxA x] (syntaxO x) (.sv (syntaxR x 0))
def Tc_toSyntaxSLa (L : List Syntax) (x0 : SV) (x1 : Ob) : St := St.mk (regsOf 23 [(0, AV.sv (ll (List.map syntaxC L))), (3, AV.sv (SV.one (AC.ref 0))), (4, AV.sv x0)]) [x1] 0 
def Lc_toSyntaxSLa (L : List Syntax) (k : Nat) : St := Tc_toSyntaxSLa L (li (↑k : Int)) (Ob.arr true 5 (List.map syntaxC (fillTo L k))) 
def Ic_toSyntaxSLa (L : List Syntax) : Nat → St → Prop := Head (Lc_toSyntaxSLa L) (fun k => k ≤ List.length L ∧ List.length L ≤ 9223372036854775807) fun k => List.length L - k 
def W0c_toSyntaxSLa (L : List Syntax) (x0 : Ob) : St := St.mk (regsOf 23 [(3, AV.sv (SV.one (AC.ref 0)))]) [x0] 0 
def Yc_toSyntaxSLa (L : List Syntax) : List (Prop × AEx × St) := [(True, AEx.exit 0, W0c_toSyntaxSLa L (Ob.arr true 5 (List.map syntaxC L)))]
theorem Hc_toSyntaxSLa {L : List Syntax} {k : Nat} {m : Nat} (h : (fun k => k ≤ List.length L ∧ List.length L ≤ 9223372036854775807) k) (hm : (fun k => List.length L - k) k = m) :
 Ic_toSyntaxSLa L m (Lc_toSyntaxSLa L k) := hm ▸ Head.mk h
theorem Ec_toSyntaxSLa {L : List Syntax} {k : Nat} {x0 : SV} {x1 : Ob} (h0 : x0 = (li (↑k : Int))) (h1 : x1 = (Ob.arr true 5 (List.map syntaxC (fillTo L k)))) : Tc_toSyntaxSLa L x0
 x1 = Lc_toSyntaxSLa L k := by
  rw [h0, h1]
  rfl
theorem EW0c_toSyntaxSLa {L : List Syntax} {x0 y0 : Ob} (h0 : x0 = y0) : W0c_toSyntaxSLa L x0 = W0c_toSyntaxSLa L y0 := by rw [h0]
theorem run_c_toSyntaxSLa (L : List Syntax) (k : Nat) : aexec Try.prog (loopAt Try.f86 0) (Lc_toSyntaxSLa L k) [Orc.br [Orc.cells (syntaxF (List.getD L k default)), Orc.call
 [Mode.rd] (syntaxO (List.getD L k default)) (AV.sv (syntaxR (List.getD L k default) 0)), Orc.cells (syntaxF (List.getD (fillTo L k) (Int.toNat (↑k : Int)) default)), Orc.ghost
 (Ghost.sel [0] [0, 3, 4]), Orc.goto (List.length L - (k + 1)) (Lc_toSyntaxSLa L (k + 1))] [Orc.ghost (Ghost.sel [0] [3]), Orc.out 0]] (loopK (Ic_toSyntaxSLa L) (Yc_toSyntaxSLa L)
 (List.length L - k)) = (List.length (List.map syntaxC L) ≤ 9223372036854775807 → (decide ((↑k : Int) < (↑(List.length (List.map syntaxC L)) : Int)) = true → (0 ≤ (↑k : Int) ∧
 (List.map syntaxC L)[Int.toNat (↑k : Int)]? = some (syntaxF (List.getD L k default))) ∧ P_c_toSyntax (List.getD L k default) ∧ (0 ≤ (↑k : Int) ∧ Int.toNat (↑k : Int) < List.length
 (List.map syntaxC (fillTo L k))) ∧ (List.map syntaxC (fillTo L k))[Int.toNat (↑k : Int)]? = some (syntaxF (List.getD (fillTo L k) (Int.toNat (↑k : Int)) default)) ∧ rng
 IntKind.i64 ((↑k : Int) + 1) ∧ List.length L - (k + 1) < List.length L - k ∧ Tc_toSyntaxSLa L (li ((↑k : Int) + 1)) (Ob.arr true 5 (List.set (List.map syntaxC (fillTo L k))
 (Int.toNat (↑k : Int)) (syntaxF (List.getD L k default)))) = Lc_toSyntaxSLa L (k + 1) ∧ Ic_toSyntaxSLa L (List.length L - (k + 1)) (Lc_toSyntaxSLa L (k + 1))) ∧ (decide ((↑k :
 Int) < (↑(List.length (List.map syntaxC L)) : Int)) = false → True ∧ W0c_toSyntaxSLa L (Ob.arr true 5 (List.map syntaxC (fillTo L k))) = W0c_toSyntaxSLa L (Ob.arr true 5 (List.map
 syntaxC L)))) := by kernel_rfl
theorem Sc_toSyntaxSLa (L : List Syntax) (h : List.length L + sumBy wY L ≤ 1048576) (ih : ∀ (x : Syntax), x ∈ L → wY x ≤ 1048576 → P_c_toSyntax x)  : LoopSem Try.prog (loopAt
 Try.f86 0) (Ic_toSyntaxSLa L) (Yc_toSyntaxSLa L) := by
  refine LoopSem.ofHead wide fun k h => ⟨_, _, run_c_toSyntaxSLa L k, ?_⟩
  with_reducible repeat' (first | apply And.intro | exact flatI | exact flatS | exact rowLens | exact ih | (intro; skip) | apply obsN | apply obsC | apply obA | apply obM | apply obB | apply svA | apply tupA | apply lcA | apply lcS | apply svC | apply liC | apply lbC | apply lsC | apply vIc | apply vBc | apply vSc | apply vLc | apply mapC | apply Hc_toSyntaxSLa | apply Ec_toSyntaxSLa | apply EW0c_toSyntaxSLa | apply ih)
  all_goals (try simp only [std] at *)
  all_goals (try (first | with_reducible rfl | omega | assumption | (refine (decide_eq_true ?_).symm; assumption) | (refine (decide_eq_false ?_).symm; assumption) | (refine rowGet ?_; (first | omega | (simp only [std]; omega) | grind)) | (refine getC ?_ rfl; (first | omega | (simp only [std]; omega) | grind)) | (refine fill_step ?_ ?_; (first | omega | (simp only [std]; omega) | grind); (first | rfl | exact (Row.eq _).trans rfl)) | (refine fill_init ?_; (first | rfl | exact (Row.eq _).trans rfl)) | grind [fillTo_all, getD_mem', sumBy_mem, snocI, snocS, rowSnoc]))
theorem run_c_toSyntaxS (L : List Syntax) : aexec Try.prog (Option.getD (Func.body Try.f86) Code.skip) (entry [] [ll (List.map syntaxC L)] 23) [Orc.ghost (Ghost.sel [0] [0, 3, 4]),
 Orc.loop (List.length L - 0) (Lc_toSyntaxSLa L 0) (Ic_toSyntaxSLa L) [(True, AEx.exit 0, W0c_toSyntaxSLa L (Ob.arr true 5 (List.map syntaxC L)), [Orc.fin [0]])]] (finK Try.prog
 [ResultVar.tmp 2] [Ob.arr true 5 (List.map syntaxC L)] (AV.sv (SV.one (AC.ref 0)))) = (List.length (List.map syntaxC L) ≤ 9223372036854775807 → (0 ≤ (↑(List.length (List.map
 syntaxC L)) : Int) ∧ 80 * Int.toNat (↑(List.length (List.map syntaxC L)) : Int) ≤ 281474976710656) ∧ Tc_toSyntaxSLa L (li 0) (Ob.arr true 5 (List.replicate (Int.toNat
 (↑(List.length (List.map syntaxC L)) : Int)) [cI 0, cI 0, cS (ByteArray.mk #[]), Cell.list [], Cell.list []])) = Lc_toSyntaxSLa L 0 ∧ Ic_toSyntaxSLa L (List.length L - 0)
 (Lc_toSyntaxSLa L 0) ∧ LoopSem Try.prog (loopAt Try.f86 0) (Ic_toSyntaxSLa L) (Yc_toSyntaxSLa L) ∧ (True → ObsEq [Ob.arr true 5 (List.map syntaxC L)] [Ob.arr true 5 (List.map
 syntaxC L)] ∧ AV.sv (SV.one (AC.ref 0)) = AV.sv (SV.one (AC.ref 0))) ∧ True) := by kernel_rfl
theorem c_toSyntaxS (L : List Syntax) (h : L.length + sumBy wY L ≤ 1048576) (ih : ∀ x ∈ L, ∀ (h : wY x ≤ 1048576), P_c_toSyntax x)  : P_c_toSyntaxS L := by
  refine CallOK.ofRun wide (run_c_toSyntaxS L) Try.call86 Try.func86 rfl rfl rfl ?_
  with_reducible repeat' (first | apply And.intro | exact flatI | exact flatS | exact rowLens | exact ih | (intro; skip) | apply obsN | apply obsC | apply obA | apply obM | apply obB | apply svA | apply tupA | apply lcA | apply lcS | apply svC | apply liC | apply lbC | apply lsC | apply vIc | apply vBc | apply vSc | apply vLc | apply mapC | apply Hc_toSyntaxSLa | apply Ec_toSyntaxSLa | apply Sc_toSyntaxSLa | apply EW0c_toSyntaxSLa)
  all_goals (try simp only [std] at *)
  all_goals (try (first | with_reducible rfl | omega | assumption | (refine (decide_eq_true ?_).symm; assumption) | (refine (decide_eq_false ?_).symm; assumption) | (refine rowGet ?_; (first | omega | (simp only [std]; omega) | grind)) | (refine getC ?_ rfl; (first | omega | (simp only [std]; omega) | grind)) | (refine fill_step ?_ ?_; (first | omega | (simp only [std]; omega) | grind); (first | rfl | exact (Row.eq _).trans rfl)) | (refine fill_init ?_; (first | rfl | exact (Row.eq _).trans rfl)) | grind [snocI, snocS, rowSnoc]))
theorem run_c_toSyntax_s (x : Syntax) : aexec Try.prog (Option.getD (Func.body Try.f54) Code.skip) (entry [] [syntaxA x] 22) [Orc.call [Mode.rd] [Ob.arr true 1 (List.map intC
 (Syntax.scopes x))] (AV.sv (SV.one (AC.ref 0))), Orc.call [Mode.rd] [Ob.arr true 5 (List.map syntaxC (Syntax.items x))] (AV.sv (SV.one (AC.ref 0))), Orc.fin [3, 4]] (finK Try.prog
 [ResultVar.cell 2 83] (syntaxO x) (AV.sv (syntaxR x 0))) = (P_c_toIntS (Syntax.scopes x) ∧ P_c_toSyntaxS (Syntax.items x) ∧ ObsEq [Ob.arr true 1 (List.map intC (Syntax.scopes x)),
 Ob.arr true 5 (List.map syntaxC (Syntax.items x))] [Ob.arr true 1 (List.map intC (Syntax.scopes x)), Ob.arr true 5 (List.map syntaxC (Syntax.items x))] ∧ AV.sv (SV.agg [vI
 (Syntax.kind x), vI (Syntax.number x), vS (Syntax.text x), AC.ref 0, AC.ref 1]) = AV.sv (SV.agg [vI (Syntax.kind x), vI (Syntax.number x), vS (Syntax.text x), AC.ref 0, AC.ref
 1])) := by kernel_rfl
theorem c_toSyntax_s (x : Syntax) (h : wY x ≤ 1048576) (ih : ∀ z ∈ x.items, ∀ (h : wY z ≤ 1048576), P_c_toSyntax z)  : P_c_toSyntax x := by
  refine CallOK.ofRun wide (run_c_toSyntax_s x) Try.call54 Try.func54 rfl rfl rfl ?_
  with_reducible repeat' (first | apply And.intro | exact flatI | exact flatS | exact rowLens | exact ih | (intro; skip) | apply obsN | apply obsC | apply obA | apply obM | apply obB | apply svA | apply tupA | apply lcA | apply lcS | apply svC | apply liC | apply lbC | apply lsC | apply vIc | apply vBc | apply vSc | apply vLc | apply mapC | apply c_toIntS | apply c_toSyntaxS | apply ih)
  all_goals (try simp only [std] at *)
  all_goals (try (first | with_reducible rfl | omega | assumption | (refine (decide_eq_true ?_).symm; assumption) | (refine (decide_eq_false ?_).symm; assumption) | (refine rowGet ?_; (first | omega | (simp only [std]; omega) | grind)) | (refine getC ?_ rfl; (first | omega | (simp only [std]; omega) | grind)) | (refine fill_step ?_ ?_; (first | omega | (simp only [std]; omega) | grind); (first | rfl | exact (Row.eq _).trans rfl)) | (refine fill_init ?_; (first | rfl | exact (Row.eq _).trans rfl)) | grind [wY_eq, wS, snocI, snocS, rowSnoc]))
theorem c_toSyntax (x : Syntax) : ∀ (h : wY x ≤ 1048576), P_c_toSyntax x := Syntax.ind (P := fun x => ∀ (h : wY x ≤ 1048576), P_c_toSyntax x) (fun x ih h => c_toSyntax_s x h ih) x
abbrev P_c_toBinding (x : Binding) : Prop := CallOK Try.prog 230 [] [bindingA x] (bindingO x) (.sv (bindingR x 0))
theorem run_c_toBinding (x : Binding) : aexec Try.prog (Option.getD (Func.body Try.f230) Code.skip) (entry [] [bindingA x] 18) [Orc.call [Mode.rd] [Ob.arr true 1 (List.map intC
 (Binding.scopes x))] (AV.sv (SV.one (AC.ref 0))), Orc.fin [3]] (finK Try.prog [ResultVar.cell 2 236] (bindingO x) (AV.sv (bindingR x 0))) = (P_c_toIntS (Binding.scopes x) ∧ ObsEq
 [Ob.arr true 1 (List.map intC (Binding.scopes x))] [Ob.arr true 1 (List.map intC (Binding.scopes x))] ∧ AV.sv (SV.agg [vS (Binding.text x), AC.ref 0, vI (Binding.kind x), vI
 (Binding.number x)]) = AV.sv (SV.agg [vS (Binding.text x), AC.ref 0, vI (Binding.kind x), vI (Binding.number x)])) := by kernel_rfl
theorem c_toBinding (x : Binding) (h : wB x ≤ 1048576)  : P_c_toBinding x := by
  refine CallOK.ofRun wide (run_c_toBinding x) Try.call230 Try.func230 rfl rfl rfl ?_
  with_reducible repeat' (first | apply And.intro | exact flatI | exact flatS | exact rowLens | (intro; skip) | apply obsN | apply obsC | apply obA | apply obM | apply obB | apply svA | apply tupA | apply lcA | apply lcS | apply svC | apply liC | apply lbC | apply lsC | apply vIc | apply vBc | apply vSc | apply vLc | apply mapC | apply c_toIntS)
  all_goals (try simp only [std] at *)
  all_goals (try (first | with_reducible rfl | omega | assumption | (refine (decide_eq_true ?_).symm; assumption) | (refine (decide_eq_false ?_).symm; assumption) | (refine rowGet ?_; (first | omega | (simp only [std]; omega) | grind)) | (refine getC ?_ rfl; (first | omega | (simp only [std]; omega) | grind)) | (refine fill_step ?_ ?_; (first | omega | (simp only [std]; omega) | grind); (first | rfl | exact (Row.eq _).trans rfl)) | (refine fill_init ?_; (first | rfl | exact (Row.eq _).trans rfl)) | grind [wB_eq, wS, snocI, snocS, rowSnoc]))
abbrev P_c_toBindingS (L : List Binding) : Prop := CallOK Try.prog 136 [] [ll (L.map bindingC)] [.arr true 4 (L.map bindingC)] (.sv (.one (.ref 0)))
def Tc_toBindingSLa (L : List Binding) (x0 : SV) (x1 : Ob) : St := St.mk (regsOf 23 [(0, AV.sv (ll (List.map bindingC L))), (3, AV.sv (SV.one (AC.ref 0))), (4, AV.sv x0)]) [x1] 0 
def Lc_toBindingSLa (L : List Binding) (k : Nat) : St := Tc_toBindingSLa L (li (↑k : Int)) (Ob.arr true 4 (List.map bindingC (fillTo L k))) 
def Ic_toBindingSLa (L : List Binding) : Nat → St → Prop := Head (Lc_toBindingSLa L) (fun k => k ≤ List.length L ∧ List.length L ≤ 9223372036854775807) fun k => List.length L - k 
def W0c_toBindingSLa (L : List Binding) (x0 : Ob) : St := St.mk (regsOf 23 [(3, AV.sv (SV.one (AC.ref 0)))]) [x0] 0 
def Yc_toBindingSLa (L : List Binding) : List (Prop × AEx × St) := [(True, AEx.exit 0, W0c_toBindingSLa L (Ob.arr true 4 (List.map bindingC L)))]
theorem Hc_toBindingSLa {L : List Binding} {k : Nat} {m : Nat} (h : (fun k => k ≤ List.length L ∧ List.length L ≤ 9223372036854775807) k) (hm : (fun k => List.length L - k) k = m)
 : Ic_toBindingSLa L m (Lc_toBindingSLa L k) := hm ▸ Head.mk h
theorem Ec_toBindingSLa {L : List Binding} {k : Nat} {x0 : SV} {x1 : Ob} (h0 : x0 = (li (↑k : Int))) (h1 : x1 = (Ob.arr true 4 (List.map bindingC (fillTo L k)))) : Tc_toBindingSLa
 L x0 x1 = Lc_toBindingSLa L k := by
  rw [h0, h1]
  rfl
theorem EW0c_toBindingSLa {L : List Binding} {x0 y0 : Ob} (h0 : x0 = y0) : W0c_toBindingSLa L x0 = W0c_toBindingSLa L y0 := by rw [h0]
theorem run_c_toBindingSLa (L : List Binding) (k : Nat) : aexec Try.prog (loopAt Try.f136 0) (Lc_toBindingSLa L k) [Orc.br [Orc.cells (bindingF (List.getD L k default)), Orc.call
 [Mode.rd] (bindingO (List.getD L k default)) (AV.sv (bindingR (List.getD L k default) 0)), Orc.cells (bindingF (List.getD (fillTo L k) (Int.toNat (↑k : Int)) default)), Orc.ghost
 (Ghost.sel [0] [0, 3, 4]), Orc.goto (List.length L - (k + 1)) (Lc_toBindingSLa L (k + 1))] [Orc.ghost (Ghost.sel [0] [3]), Orc.out 0]] (loopK (Ic_toBindingSLa L) (Yc_toBindingSLa
 L) (List.length L - k)) = (List.length (List.map bindingC L) ≤ 9223372036854775807 → (decide ((↑k : Int) < (↑(List.length (List.map bindingC L)) : Int)) = true → (0 ≤ (↑k : Int) ∧
 (List.map bindingC L)[Int.toNat (↑k : Int)]? = some (bindingF (List.getD L k default))) ∧ P_c_toBinding (List.getD L k default) ∧ (0 ≤ (↑k : Int) ∧ Int.toNat (↑k : Int) <
 List.length (List.map bindingC (fillTo L k))) ∧ (List.map bindingC (fillTo L k))[Int.toNat (↑k : Int)]? = some (bindingF (List.getD (fillTo L k) (Int.toNat (↑k : Int)) default)) ∧
 rng IntKind.i64 ((↑k : Int) + 1) ∧ List.length L - (k + 1) < List.length L - k ∧ Tc_toBindingSLa L (li ((↑k : Int) + 1)) (Ob.arr true 4 (List.set (List.map bindingC (fillTo L k))
 (Int.toNat (↑k : Int)) (bindingF (List.getD L k default)))) = Lc_toBindingSLa L (k + 1) ∧ Ic_toBindingSLa L (List.length L - (k + 1)) (Lc_toBindingSLa L (k + 1))) ∧ (decide ((↑k :
 Int) < (↑(List.length (List.map bindingC L)) : Int)) = false → True ∧ W0c_toBindingSLa L (Ob.arr true 4 (List.map bindingC (fillTo L k))) = W0c_toBindingSLa L (Ob.arr true 4
 (List.map bindingC L)))) := by kernel_rfl
theorem Sc_toBindingSLa (L : List Binding) (h : List.length L + sumBy wB L ≤ 1048576)  : LoopSem Try.prog (loopAt Try.f136 0) (Ic_toBindingSLa L) (Yc_toBindingSLa L) := by
  refine LoopSem.ofHead wide fun k h => ⟨_, _, run_c_toBindingSLa L k, ?_⟩
  with_reducible repeat' (first | apply And.intro | exact flatI | exact flatS | exact rowLens | (intro; skip) | apply obsN | apply obsC | apply obA | apply obM | apply obB | apply svA | apply tupA | apply lcA | apply lcS | apply svC | apply liC | apply lbC | apply lsC | apply vIc | apply vBc | apply vSc | apply vLc | apply mapC | apply Hc_toBindingSLa | apply Ec_toBindingSLa | apply EW0c_toBindingSLa | apply c_toBinding)
  all_goals (try simp only [std] at *)
  all_goals (try (first | with_reducible rfl | omega | assumption | (refine (decide_eq_true ?_).symm; assumption) | (refine (decide_eq_false ?_).symm; assumption) | (refine rowGet ?_; (first | omega | (simp only [std]; omega) | grind)) | (refine getC ?_ rfl; (first | omega | (simp only [std]; omega) | grind)) | (refine fill_step ?_ ?_; (first | omega | (simp only [std]; omega) | grind); (first | rfl | exact (Row.eq _).trans rfl)) | (refine fill_init ?_; (first | rfl | exact (Row.eq _).trans rfl)) | grind [fillTo_all, getD_mem', sumBy_mem, snocI, snocS, rowSnoc]))
theorem run_c_toBindingS (L : List Binding) : aexec Try.prog (Option.getD (Func.body Try.f136) Code.skip) (entry [] [ll (List.map bindingC L)] 23) [Orc.ghost (Ghost.sel [0] [0, 3,
 4]), Orc.loop (List.length L - 0) (Lc_toBindingSLa L 0) (Ic_toBindingSLa L) [(True, AEx.exit 0, W0c_toBindingSLa L (Ob.arr true 4 (List.map bindingC L)), [Orc.fin [0]])]] (finK
 Try.prog [ResultVar.tmp 2] [Ob.arr true 4 (List.map bindingC L)] (AV.sv (SV.one (AC.ref 0)))) = (List.length (List.map bindingC L) ≤ 9223372036854775807 → (0 ≤ (↑(List.length
 (List.map bindingC L)) : Int) ∧ 56 * Int.toNat (↑(List.length (List.map bindingC L)) : Int) ≤ 281474976710656) ∧ Tc_toBindingSLa L (li 0) (Ob.arr true 4 (List.replicate (Int.toNat
 (↑(List.length (List.map bindingC L)) : Int)) [cS (ByteArray.mk #[]), Cell.list [], cI 0, cI 0])) = Lc_toBindingSLa L 0 ∧ Ic_toBindingSLa L (List.length L - 0) (Lc_toBindingSLa L
 0) ∧ LoopSem Try.prog (loopAt Try.f136 0) (Ic_toBindingSLa L) (Yc_toBindingSLa L) ∧ (True → ObsEq [Ob.arr true 4 (List.map bindingC L)] [Ob.arr true 4 (List.map bindingC L)] ∧
 AV.sv (SV.one (AC.ref 0)) = AV.sv (SV.one (AC.ref 0))) ∧ True) := by kernel_rfl
theorem c_toBindingS (L : List Binding) (h : L.length + sumBy wB L ≤ 1048576)  : P_c_toBindingS L := by
  refine CallOK.ofRun wide (run_c_toBindingS L) Try.call136 Try.func136 rfl rfl rfl ?_
  with_reducible repeat' (first | apply And.intro | exact flatI | exact flatS | exact rowLens | (intro; skip) | apply obsN | apply obsC | apply obA | apply obM | apply obB | apply svA | apply tupA | apply lcA | apply lcS | apply svC | apply liC | apply lbC | apply lsC | apply vIc | apply vBc | apply vSc | apply vLc | apply mapC | apply Hc_toBindingSLa | apply Ec_toBindingSLa | apply Sc_toBindingSLa | apply EW0c_toBindingSLa | apply c_toBinding)
  all_goals (try simp only [std] at *)
  all_goals (try (first | with_reducible rfl | omega | assumption | (refine (decide_eq_true ?_).symm; assumption) | (refine (decide_eq_false ?_).symm; assumption) | (refine rowGet ?_; (first | omega | (simp only [std]; omega) | grind)) | (refine getC ?_ rfl; (first | omega | (simp only [std]; omega) | grind)) | (refine fill_step ?_ ?_; (first | omega | (simp only [std]; omega) | grind); (first | rfl | exact (Row.eq _).trans rfl)) | (refine fill_init ?_; (first | rfl | exact (Row.eq _).trans rfl)) | grind [snocI, snocS, rowSnoc]))
abbrev P_c_toRules (x : Rules) : Prop := CallOK Try.prog 95 [] [rulesA x] (rulesO x) (.sv (rulesR x 0))
theorem run_c_toRules (x : Rules) : aexec Try.prog (Option.getD (Func.body Try.f95) Code.skip) (entry [] [rulesA x] 17) [Orc.call [Mode.rd] [Ob.arr true 5 (List.map syntaxC
 (Rules.literals x))] (AV.sv (SV.one (AC.ref 0))), Orc.call [Mode.rd] [Ob.arr true 5 (List.map syntaxC (Rules.patterns x))] (AV.sv (SV.one (AC.ref 0))), Orc.call [Mode.rd] [Ob.arr
 true 5 (List.map syntaxC (Rules.templates x))] (AV.sv (SV.one (AC.ref 0))), Orc.fin [3, 4, 5]] (finK Try.prog [ResultVar.cell 2 145] (rulesO x) (AV.sv (rulesR x 0))) =
 (P_c_toSyntaxS (Rules.literals x) ∧ P_c_toSyntaxS (Rules.patterns x) ∧ P_c_toSyntaxS (Rules.templates x) ∧ ObsEq [Ob.arr true 5 (List.map syntaxC (Rules.literals x)), Ob.arr true
 5 (List.map syntaxC (Rules.patterns x)), Ob.arr true 5 (List.map syntaxC (Rules.templates x))] [Ob.arr true 5 (List.map syntaxC (Rules.literals x)), Ob.arr true 5 (List.map
 syntaxC (Rules.patterns x)), Ob.arr true 5 (List.map syntaxC (Rules.templates x))] ∧ AV.sv (SV.agg [AC.ref 0, AC.ref 1, AC.ref 2]) = AV.sv (SV.agg [AC.ref 0, AC.ref 1, AC.ref 2]))
 := by kernel_rfl
theorem c_toRules (x : Rules) (h : wR x ≤ 1048576)  : P_c_toRules x := by
  refine CallOK.ofRun wide (run_c_toRules x) Try.call95 Try.func95 rfl rfl rfl ?_
  with_reducible repeat' (first | apply And.intro | exact flatI | exact flatS | exact rowLens | (intro; skip) | apply obsN | apply obsC | apply obA | apply obM | apply obB | apply svA | apply tupA | apply lcA | apply lcS | apply svC | apply liC | apply lbC | apply lsC | apply vIc | apply vBc | apply vSc | apply vLc | apply mapC | apply c_toSyntaxS | apply c_toSyntax)
  all_goals (try simp only [std] at *)
  all_goals (try (first | with_reducible rfl | omega | assumption | (refine (decide_eq_true ?_).symm; assumption) | (refine (decide_eq_false ?_).symm; assumption) | (refine rowGet ?_; (first | omega | (simp only [std]; omega) | grind)) | (refine getC ?_ rfl; (first | omega | (simp only [std]; omega) | grind)) | (refine fill_step ?_ ?_; (first | omega | (simp only [std]; omega) | grind); (first | rfl | exact (Row.eq _).trans rfl)) | (refine fill_init ?_; (first | rfl | exact (Row.eq _).trans rfl)) | grind [wR_eq, wS, snocI, snocS, rowSnoc]))
abbrev P_c_toRulesS (L : List Rules) : Prop := CallOK Try.prog 137 [] [ll (L.map rulesC)] [.arr true 3 (L.map rulesC)] (.sv (.one (.ref 0)))
def Tc_toRulesSLa (L : List Rules) (x0 : SV) (x1 : Ob) : St := St.mk (regsOf 23 [(0, AV.sv (ll (List.map rulesC L))), (3, AV.sv (SV.one (AC.ref 0))), (4, AV.sv x0)]) [x1] 0 
def Lc_toRulesSLa (L : List Rules) (k : Nat) : St := Tc_toRulesSLa L (li (↑k : Int)) (Ob.arr true 3 (List.map rulesC (fillTo L k))) 
def Ic_toRulesSLa (L : List Rules) : Nat → St → Prop := Head (Lc_toRulesSLa L) (fun k => k ≤ List.length L ∧ List.length L ≤ 9223372036854775807) fun k => List.length L - k 
def W0c_toRulesSLa (L : List Rules) (x0 : Ob) : St := St.mk (regsOf 23 [(3, AV.sv (SV.one (AC.ref 0)))]) [x0] 0 
def Yc_toRulesSLa (L : List Rules) : List (Prop × AEx × St) := [(True, AEx.exit 0, W0c_toRulesSLa L (Ob.arr true 3 (List.map rulesC L)))]
theorem Hc_toRulesSLa {L : List Rules} {k : Nat} {m : Nat} (h : (fun k => k ≤ List.length L ∧ List.length L ≤ 9223372036854775807) k) (hm : (fun k => List.length L - k) k = m) :
 Ic_toRulesSLa L m (Lc_toRulesSLa L k) := hm ▸ Head.mk h
theorem Ec_toRulesSLa {L : List Rules} {k : Nat} {x0 : SV} {x1 : Ob} (h0 : x0 = (li (↑k : Int))) (h1 : x1 = (Ob.arr true 3 (List.map rulesC (fillTo L k)))) : Tc_toRulesSLa L x0 x1
 = Lc_toRulesSLa L k := by
  rw [h0, h1]
  rfl
theorem EW0c_toRulesSLa {L : List Rules} {x0 y0 : Ob} (h0 : x0 = y0) : W0c_toRulesSLa L x0 = W0c_toRulesSLa L y0 := by rw [h0]
theorem run_c_toRulesSLa (L : List Rules) (k : Nat) : aexec Try.prog (loopAt Try.f137 0) (Lc_toRulesSLa L k) [Orc.br [Orc.cells (rulesF (List.getD L k default)), Orc.call [Mode.rd]
 (rulesO (List.getD L k default)) (AV.sv (rulesR (List.getD L k default) 0)), Orc.cells (rulesF (List.getD (fillTo L k) (Int.toNat (↑k : Int)) default)), Orc.ghost (Ghost.sel [0]
 [0, 3, 4]), Orc.goto (List.length L - (k + 1)) (Lc_toRulesSLa L (k + 1))] [Orc.ghost (Ghost.sel [0] [3]), Orc.out 0]] (loopK (Ic_toRulesSLa L) (Yc_toRulesSLa L) (List.length L -
 k)) = (List.length (List.map rulesC L) ≤ 9223372036854775807 → (decide ((↑k : Int) < (↑(List.length (List.map rulesC L)) : Int)) = true → (0 ≤ (↑k : Int) ∧ (List.map rulesC
 L)[Int.toNat (↑k : Int)]? = some (rulesF (List.getD L k default))) ∧ P_c_toRules (List.getD L k default) ∧ (0 ≤ (↑k : Int) ∧ Int.toNat (↑k : Int) < List.length (List.map rulesC
 (fillTo L k))) ∧ (List.map rulesC (fillTo L k))[Int.toNat (↑k : Int)]? = some (rulesF (List.getD (fillTo L k) (Int.toNat (↑k : Int)) default)) ∧ rng IntKind.i64 ((↑k : Int) + 1) ∧
 List.length L - (k + 1) < List.length L - k ∧ Tc_toRulesSLa L (li ((↑k : Int) + 1)) (Ob.arr true 3 (List.set (List.map rulesC (fillTo L k)) (Int.toNat (↑k : Int)) (rulesF
 (List.getD L k default)))) = Lc_toRulesSLa L (k + 1) ∧ Ic_toRulesSLa L (List.length L - (k + 1)) (Lc_toRulesSLa L (k + 1))) ∧ (decide ((↑k : Int) < (↑(List.length (List.map rulesC
 L)) : Int)) = false → True ∧ W0c_toRulesSLa L (Ob.arr true 3 (List.map rulesC (fillTo L k))) = W0c_toRulesSLa L (Ob.arr true 3 (List.map rulesC L)))) := by kernel_rfl
theorem Sc_toRulesSLa (L : List Rules) (h : List.length L + sumBy wR L ≤ 1048576)  : LoopSem Try.prog (loopAt Try.f137 0) (Ic_toRulesSLa L) (Yc_toRulesSLa L) := by
  refine LoopSem.ofHead wide fun k h => ⟨_, _, run_c_toRulesSLa L k, ?_⟩
  with_reducible repeat' (first | apply And.intro | exact flatI | exact flatS | exact rowLens | (intro; skip) | apply obsN | apply obsC | apply obA | apply obM | apply obB | apply svA | apply tupA | apply lcA | apply lcS | apply svC | apply liC | apply lbC | apply lsC | apply vIc | apply vBc | apply vSc | apply vLc | apply mapC | apply Hc_toRulesSLa | apply Ec_toRulesSLa | apply EW0c_toRulesSLa | apply c_toRules)
  all_goals (try simp only [std] at *)
  all_goals (try (first | with_reducible rfl | omega | assumption | (refine (decide_eq_true ?_).symm; assumption) | (refine (decide_eq_false ?_).symm; assumption) | (refine rowGet ?_; (first | omega | (simp only [std]; omega) | grind)) | (refine getC ?_ rfl; (first | omega | (simp only [std]; omega) | grind)) | (refine fill_step ?_ ?_; (first | omega | (simp only [std]; omega) | grind); (first | rfl | exact (Row.eq _).trans rfl)) | (refine fill_init ?_; (first | rfl | exact (Row.eq _).trans rfl)) | grind [fillTo_all, getD_mem', sumBy_mem, snocI, snocS, rowSnoc]))
theorem run_c_toRulesS (L : List Rules) : aexec Try.prog (Option.getD (Func.body Try.f137) Code.skip) (entry [] [ll (List.map rulesC L)] 23) [Orc.ghost (Ghost.sel [0] [0, 3, 4]),
 Orc.loop (List.length L - 0) (Lc_toRulesSLa L 0) (Ic_toRulesSLa L) [(True, AEx.exit 0, W0c_toRulesSLa L (Ob.arr true 3 (List.map rulesC L)), [Orc.fin [0]])]] (finK Try.prog
 [ResultVar.tmp 2] [Ob.arr true 3 (List.map rulesC L)] (AV.sv (SV.one (AC.ref 0)))) = (List.length (List.map rulesC L) ≤ 9223372036854775807 → (0 ≤ (↑(List.length (List.map rulesC
 L)) : Int) ∧ 72 * Int.toNat (↑(List.length (List.map rulesC L)) : Int) ≤ 281474976710656) ∧ Tc_toRulesSLa L (li 0) (Ob.arr true 3 (List.replicate (Int.toNat (↑(List.length
 (List.map rulesC L)) : Int)) [Cell.list [], Cell.list [], Cell.list []])) = Lc_toRulesSLa L 0 ∧ Ic_toRulesSLa L (List.length L - 0) (Lc_toRulesSLa L 0) ∧ LoopSem Try.prog (loopAt
 Try.f137 0) (Ic_toRulesSLa L) (Yc_toRulesSLa L) ∧ (True → ObsEq [Ob.arr true 3 (List.map rulesC L)] [Ob.arr true 3 (List.map rulesC L)] ∧ AV.sv (SV.one (AC.ref 0)) = AV.sv (SV.one
 (AC.ref 0))) ∧ True) := by kernel_rfl
theorem c_toRulesS (L : List Rules) (h : L.length + sumBy wR L ≤ 1048576)  : P_c_toRulesS L := by
  refine CallOK.ofRun wide (run_c_toRulesS L) Try.call137 Try.func137 rfl rfl rfl ?_
  with_reducible repeat' (first | apply And.intro | exact flatI | exact flatS | exact rowLens | (intro; skip) | apply obsN | apply obsC | apply obA | apply obM | apply obB | apply svA | apply tupA | apply lcA | apply lcS | apply svC | apply liC | apply lbC | apply lsC | apply vIc | apply vBc | apply vSc | apply vLc | apply mapC | apply Hc_toRulesSLa | apply Ec_toRulesSLa | apply Sc_toRulesSLa | apply EW0c_toRulesSLa | apply c_toRules)
  all_goals (try simp only [std] at *)
  all_goals (try (first | with_reducible rfl | omega | assumption | (refine (decide_eq_true ?_).symm; assumption) | (refine (decide_eq_false ?_).symm; assumption) | (refine rowGet ?_; (first | omega | (simp only [std]; omega) | grind)) | (refine getC ?_ rfl; (first | omega | (simp only [std]; omega) | grind)) | (refine fill_step ?_ ?_; (first | omega | (simp only [std]; omega) | grind); (first | rfl | exact (Row.eq _).trans rfl)) | (refine fill_init ?_; (first | rfl | exact (Row.eq _).trans rfl)) | grind [snocI, snocS, rowSnoc]))
abbrev P_c_toExpander (x : Expander) : Prop := CallOK Try.prog 40 [] [expanderA x] (expanderO x) (.sv (expanderR x 0))
theorem run_c_toExpander (x : Expander) : aexec Try.prog (Option.getD (Func.body Try.f40) Code.skip) (entry [] [expanderA x] 22) [Orc.call [Mode.rd] [Ob.arr true 4 (List.map
 bindingC (Expander.bindings x))] (AV.sv (SV.one (AC.ref 0))), Orc.call [Mode.rd] [Ob.arr true 3 (List.map rulesC (Expander.macros x))] (AV.sv (SV.one (AC.ref 0))), Orc.fin [3, 4]]
 (finK Try.prog [ResultVar.cell 2 25] (expanderO x) (AV.sv (expanderR x 0))) = (P_c_toBindingS (Expander.bindings x) ∧ P_c_toRulesS (Expander.macros x) ∧ ObsEq [Ob.arr true 4
 (List.map bindingC (Expander.bindings x)), Ob.arr true 3 (List.map rulesC (Expander.macros x))] [Ob.arr true 4 (List.map bindingC (Expander.bindings x)), Ob.arr true 3 (List.map
 rulesC (Expander.macros x))] ∧ AV.sv (SV.agg [AC.ref 0, AC.ref 1, vI (Expander.scope x), vI (Expander.vari x), vI (Expander.steps x)]) = AV.sv (SV.agg [AC.ref 0, AC.ref 1, vI
 (Expander.scope x), vI (Expander.vari x), vI (Expander.steps x)])) := by kernel_rfl
theorem c_toExpander (x : Expander) (h : wX x ≤ 1048576)  : P_c_toExpander x := by
  refine CallOK.ofRun wide (run_c_toExpander x) Try.call40 Try.func40 rfl rfl rfl ?_
  with_reducible repeat' (first | apply And.intro | exact flatI | exact flatS | exact rowLens | (intro; skip) | apply obsN | apply obsC | apply obA | apply obM | apply obB | apply svA | apply tupA | apply lcA | apply lcS | apply svC | apply liC | apply lbC | apply lsC | apply vIc | apply vBc | apply vSc | apply vLc | apply mapC | apply c_toBindingS | apply c_toRulesS)
  all_goals (try simp only [std] at *)
  all_goals (try (first | with_reducible rfl | omega | assumption | (refine (decide_eq_true ?_).symm; assumption) | (refine (decide_eq_false ?_).symm; assumption) | (refine rowGet ?_; (first | omega | (simp only [std]; omega) | grind)) | (refine getC ?_ rfl; (first | omega | (simp only [std]; omega) | grind)) | (refine fill_step ?_ ?_; (first | omega | (simp only [std]; omega) | grind); (first | rfl | exact (Row.eq _).trans rfl)) | (refine fill_init ?_; (first | rfl | exact (Row.eq _).trans rfl)) | grind [wX_eq, wS, snocI, snocS, rowSnoc]))
abbrev P_c_toExport (x : Export) : Prop := CallOK Try.prog 249 [] [exportA x] (exportO x) (.sv (exportR x 0))
theorem run_c_toExport (x : Export) : aexec Try.prog (Option.getD (Func.body Try.f249) Code.skip) (entry [] [exportA x] 17) [Orc.fin []] (finK Try.prog [ResultVar.cell 2 105]
 (exportO x) (AV.sv (exportR x 0))) = (ObsEq [] [] ∧ AV.sv (SV.agg (vals (exportF x))) = AV.sv (SV.agg (vals (exportF x)))) := by kernel_rfl
theorem c_toExport (x : Export) (h : wE x ≤ 1048576)  : P_c_toExport x := by
  refine CallOK.ofRun wide (run_c_toExport x) Try.call249 Try.func249 rfl rfl rfl ?_
  with_reducible repeat' (first | apply And.intro | exact flatI | exact flatS | exact rowLens | (intro; skip) | apply obsN | apply obsC | apply obA | apply obM | apply obB | apply svA | apply tupA | apply lcA | apply lcS | apply svC | apply liC | apply lbC | apply lsC | apply vIc | apply vBc | apply vSc | apply vLc | apply mapC)
  all_goals (try simp only [std] at *)
  all_goals (try (first | with_reducible rfl | omega | assumption | (refine (decide_eq_true ?_).symm; assumption) | (refine (decide_eq_false ?_).symm; assumption) | (refine rowGet ?_; (first | omega | (simp only [std]; omega) | grind)) | (refine getC ?_ rfl; (first | omega | (simp only [std]; omega) | grind)) | (refine fill_step ?_ ?_; (first | omega | (simp only [std]; omega) | grind); (first | rfl | exact (Row.eq _).trans rfl)) | (refine fill_init ?_; (first | rfl | exact (Row.eq _).trans rfl)) | grind [wE_eq, wS, snocI, snocS, rowSnoc]))
abbrev P_c_toExportS (L : List Export) : Prop := CallOK Try.prog 179 [] [ll (L.map exportC)] [.arr true 4 (L.map exportC)] (.sv (.one (.ref 0)))
def Tc_toExportSLa (L : List Export) (x0 : SV) (x1 : Ob) : St := St.mk (regsOf 23 [(0, AV.sv (ll (List.map exportC L))), (3, AV.sv (SV.one (AC.ref 0))), (4, AV.sv x0)]) [x1] 0 
def Lc_toExportSLa (L : List Export) (k : Nat) : St := Tc_toExportSLa L (li (↑k : Int)) (Ob.arr true 4 (List.map exportC (fillTo L k))) 
def Ic_toExportSLa (L : List Export) : Nat → St → Prop := Head (Lc_toExportSLa L) (fun k => k ≤ List.length L ∧ List.length L ≤ 9223372036854775807) fun k => List.length L - k 
def W0c_toExportSLa (L : List Export) (x0 : Ob) : St := St.mk (regsOf 23 [(3, AV.sv (SV.one (AC.ref 0)))]) [x0] 0 
def Yc_toExportSLa (L : List Export) : List (Prop × AEx × St) := [(True, AEx.exit 0, W0c_toExportSLa L (Ob.arr true 4 (List.map exportC L)))]
theorem Hc_toExportSLa {L : List Export} {k : Nat} {m : Nat} (h : (fun k => k ≤ List.length L ∧ List.length L ≤ 9223372036854775807) k) (hm : (fun k => List.length L - k) k = m) :
 Ic_toExportSLa L m (Lc_toExportSLa L k) := hm ▸ Head.mk h
theorem Ec_toExportSLa {L : List Export} {k : Nat} {x0 : SV} {x1 : Ob} (h0 : x0 = (li (↑k : Int))) (h1 : x1 = (Ob.arr true 4 (List.map exportC (fillTo L k)))) : Tc_toExportSLa L x0
 x1 = Lc_toExportSLa L k := by
  rw [h0, h1]
  rfl
theorem EW0c_toExportSLa {L : List Export} {x0 y0 : Ob} (h0 : x0 = y0) : W0c_toExportSLa L x0 = W0c_toExportSLa L y0 := by rw [h0]
theorem run_c_toExportSLa (L : List Export) (k : Nat) : aexec Try.prog (loopAt Try.f179 0) (Lc_toExportSLa L k) [Orc.br [Orc.cells (exportF (List.getD L k default)), Orc.call
 [Mode.rd] (exportO (List.getD L k default)) (AV.sv (exportR (List.getD L k default) 0)), Orc.cells (exportF (List.getD (fillTo L k) (Int.toNat (↑k : Int)) default)), Orc.ghost
 (Ghost.sel [0] [0, 3, 4]), Orc.goto (List.length L - (k + 1)) (Lc_toExportSLa L (k + 1))] [Orc.ghost (Ghost.sel [0] [3]), Orc.out 0]] (loopK (Ic_toExportSLa L) (Yc_toExportSLa L)
 (List.length L - k)) = (List.length (List.map exportC L) ≤ 9223372036854775807 → (decide ((↑k : Int) < (↑(List.length (List.map exportC L)) : Int)) = true → (0 ≤ (↑k : Int) ∧
 (List.map exportC L)[Int.toNat (↑k : Int)]? = some (exportF (List.getD L k default))) ∧ P_c_toExport (List.getD L k default) ∧ (0 ≤ (↑k : Int) ∧ Int.toNat (↑k : Int) < List.length
 (List.map exportC (fillTo L k))) ∧ (List.map exportC (fillTo L k))[Int.toNat (↑k : Int)]? = some (exportF (List.getD (fillTo L k) (Int.toNat (↑k : Int)) default)) ∧ rng
 IntKind.i64 ((↑k : Int) + 1) ∧ List.length L - (k + 1) < List.length L - k ∧ Tc_toExportSLa L (li ((↑k : Int) + 1)) (Ob.arr true 4 (List.set (List.map exportC (fillTo L k))
 (Int.toNat (↑k : Int)) (exportF (List.getD L k default)))) = Lc_toExportSLa L (k + 1) ∧ Ic_toExportSLa L (List.length L - (k + 1)) (Lc_toExportSLa L (k + 1))) ∧ (decide ((↑k :
 Int) < (↑(List.length (List.map exportC L)) : Int)) = false → True ∧ W0c_toExportSLa L (Ob.arr true 4 (List.map exportC (fillTo L k))) = W0c_toExportSLa L (Ob.arr true 4 (List.map
 exportC L)))) := by kernel_rfl
theorem Sc_toExportSLa (L : List Export) (h : List.length L + sumBy wE L ≤ 1048576)  : LoopSem Try.prog (loopAt Try.f179 0) (Ic_toExportSLa L) (Yc_toExportSLa L) := by
  refine LoopSem.ofHead wide fun k h => ⟨_, _, run_c_toExportSLa L k, ?_⟩
  with_reducible repeat' (first | apply And.intro | exact flatI | exact flatS | exact rowLens | (intro; skip) | apply obsN | apply obsC | apply obA | apply obM | apply obB | apply svA | apply tupA | apply lcA | apply lcS | apply svC | apply liC | apply lbC | apply lsC | apply vIc | apply vBc | apply vSc | apply vLc | apply mapC | apply Hc_toExportSLa | apply Ec_toExportSLa | apply EW0c_toExportSLa | apply c_toExport)
  all_goals (try simp only [std] at *)
  all_goals (try (first | with_reducible rfl | omega | assumption | (refine (decide_eq_true ?_).symm; assumption) | (refine (decide_eq_false ?_).symm; assumption) | (refine rowGet ?_; (first | omega | (simp only [std]; omega) | grind)) | (refine getC ?_ rfl; (first | omega | (simp only [std]; omega) | grind)) | (refine fill_step ?_ ?_; (first | omega | (simp only [std]; omega) | grind); (first | rfl | exact (Row.eq _).trans rfl)) | (refine fill_init ?_; (first | rfl | exact (Row.eq _).trans rfl)) | grind [fillTo_all, getD_mem', sumBy_mem, snocI, snocS, rowSnoc]))
theorem run_c_toExportS (L : List Export) : aexec Try.prog (Option.getD (Func.body Try.f179) Code.skip) (entry [] [ll (List.map exportC L)] 23) [Orc.ghost (Ghost.sel [0] [0, 3,
 4]), Orc.loop (List.length L - 0) (Lc_toExportSLa L 0) (Ic_toExportSLa L) [(True, AEx.exit 0, W0c_toExportSLa L (Ob.arr true 4 (List.map exportC L)), [Orc.fin [0]])]] (finK
 Try.prog [ResultVar.tmp 2] [Ob.arr true 4 (List.map exportC L)] (AV.sv (SV.one (AC.ref 0)))) = (List.length (List.map exportC L) ≤ 9223372036854775807 → (0 ≤ (↑(List.length
 (List.map exportC L)) : Int) ∧ 48 * Int.toNat (↑(List.length (List.map exportC L)) : Int) ≤ 281474976710656) ∧ Tc_toExportSLa L (li 0) (Ob.arr true 4 (List.replicate (Int.toNat
 (↑(List.length (List.map exportC L)) : Int)) [cS (ByteArray.mk #[]), cS (ByteArray.mk #[]), cI 0, cI 0])) = Lc_toExportSLa L 0 ∧ Ic_toExportSLa L (List.length L - 0)
 (Lc_toExportSLa L 0) ∧ LoopSem Try.prog (loopAt Try.f179 0) (Ic_toExportSLa L) (Yc_toExportSLa L) ∧ (True → ObsEq [Ob.arr true 4 (List.map exportC L)] [Ob.arr true 4 (List.map
 exportC L)] ∧ AV.sv (SV.one (AC.ref 0)) = AV.sv (SV.one (AC.ref 0))) ∧ True) := by kernel_rfl
theorem c_toExportS (L : List Export) (h : L.length + sumBy wE L ≤ 1048576)  : P_c_toExportS L := by
  refine CallOK.ofRun wide (run_c_toExportS L) Try.call179 Try.func179 rfl rfl rfl ?_
  with_reducible repeat' (first | apply And.intro | exact flatI | exact flatS | exact rowLens | (intro; skip) | apply obsN | apply obsC | apply obA | apply obM | apply obB | apply svA | apply tupA | apply lcA | apply lcS | apply svC | apply liC | apply lbC | apply lsC | apply vIc | apply vBc | apply vSc | apply vLc | apply mapC | apply Hc_toExportSLa | apply Ec_toExportSLa | apply Sc_toExportSLa | apply EW0c_toExportSLa | apply c_toExport)
  all_goals (try simp only [std] at *)
  all_goals (try (first | with_reducible rfl | omega | assumption | (refine (decide_eq_true ?_).symm; assumption) | (refine (decide_eq_false ?_).symm; assumption) | (refine rowGet ?_; (first | omega | (simp only [std]; omega) | grind)) | (refine getC ?_ rfl; (first | omega | (simp only [std]; omega) | grind)) | (refine fill_step ?_ ?_; (first | omega | (simp only [std]; omega) | grind); (first | rfl | exact (Row.eq _).trans rfl)) | (refine fill_init ?_; (first | rfl | exact (Row.eq _).trans rfl)) | grind [snocI, snocS, rowSnoc]))
abbrev P_c_toUnit (x : Unit) : Prop := CallOK Try.prog 74 [] [unitA x] (unitO x) (.sv (unitR x 0))
theorem run_c_toUnit (x : Unit) : aexec Try.prog (Option.getD (Func.body Try.f74) Code.skip) (entry [] [unitA x] 16) [Orc.call [Mode.rd] [Ob.arr true 1 (List.map intC (Unit.globals
 x))] (AV.sv (SV.one (AC.ref 0))), Orc.call [Mode.rd] (coreO (Unit.body x)) (AV.sv (coreR (Unit.body x) 0)), Orc.fin [3, 4, 5, 6]] (finK Try.prog [ResultVar.cell 2 120] (unitO x)
 (AV.sv (unitR x 0))) = (P_c_toIntS (Unit.globals x) ∧ P_c_toCore (Unit.body x) ∧ ObsEq [Ob.arr true 1 (List.map intC (Unit.globals x)), Ob.arr true 1 (List.map intC (Core.params
 (Unit.body x))), Ob.arr true 4 (List.map datumC (Datum.items (Core.datum (Unit.body x)))), Ob.arr true 8 (List.map coreC (Core.kids (Unit.body x)))] [Ob.arr true 1 (List.map intC
 (Unit.globals x)), Ob.arr true 1 (List.map intC (Core.params (Unit.body x))), Ob.arr true 4 (List.map datumC (Datum.items (Core.datum (Unit.body x)))), Ob.arr true 8 (List.map
 coreC (Core.kids (Unit.body x)))] ∧ AV.sv (SV.agg [vS (Unit.name x), AC.ref 0, vI (Core.kind (Unit.body x)), vI (Core.number (Unit.body x)), AC.ref 1, vI (Datum.kind (Core.datum
 (Unit.body x))), vI (Datum.number (Core.datum (Unit.body x))), vS (Datum.text (Core.datum (Unit.body x))), AC.ref 2, AC.ref 3]) = AV.sv (SV.agg [vS (Unit.name x), AC.ref 0, vI
 (Core.kind (Unit.body x)), vI (Core.number (Unit.body x)), AC.ref 1, vI (Datum.kind (Core.datum (Unit.body x))), vI (Datum.number (Core.datum (Unit.body x))), vS (Datum.text
 (Core.datum (Unit.body x))), AC.ref 2, AC.ref 3])) := by kernel_rfl
theorem c_toUnit (x : Unit) (h : wU x ≤ 1048576)  : P_c_toUnit x := by
  refine CallOK.ofRun wide (run_c_toUnit x) Try.call74 Try.func74 rfl rfl rfl ?_
  with_reducible repeat' (first | apply And.intro | exact flatI | exact flatS | exact rowLens | (intro; skip) | apply obsN | apply obsC | apply obA | apply obM | apply obB | apply svA | apply tupA | apply lcA | apply lcS | apply svC | apply liC | apply lbC | apply lsC | apply vIc | apply vBc | apply vSc | apply vLc | apply mapC | apply c_toIntS | apply c_toCore)
  all_goals (try simp only [std] at *)
  all_goals (try (first | with_reducible rfl | omega | assumption | (refine (decide_eq_true ?_).symm; assumption) | (refine (decide_eq_false ?_).symm; assumption) | (refine rowGet ?_; (first | omega | (simp only [std]; omega) | grind)) | (refine getC ?_ rfl; (first | omega | (simp only [std]; omega) | grind)) | (refine fill_step ?_ ?_; (first | omega | (simp only [std]; omega) | grind); (first | rfl | exact (Row.eq _).trans rfl)) | (refine fill_init ?_; (first | rfl | exact (Row.eq _).trans rfl)) | grind [wU_eq, wS, snocI, snocS, rowSnoc]))
abbrev P_c_toUnitS (L : List Unit) : Prop := CallOK Try.prog 26 [] [ll (L.map unitC)] [.arr true 10 (L.map unitC)] (.sv (.one (.ref 0)))
def Tc_toUnitSLa (L : List Unit) (x0 : SV) (x1 : Ob) : St := St.mk (regsOf 23 [(0, AV.sv (ll (List.map unitC L))), (3, AV.sv (SV.one (AC.ref 0))), (4, AV.sv x0)]) [x1] 0 
def Lc_toUnitSLa (L : List Unit) (k : Nat) : St := Tc_toUnitSLa L (li (↑k : Int)) (Ob.arr true 10 (List.map unitC (fillTo L k))) 
def Ic_toUnitSLa (L : List Unit) : Nat → St → Prop := Head (Lc_toUnitSLa L) (fun k => k ≤ List.length L ∧ List.length L ≤ 9223372036854775807) fun k => List.length L - k 
def W0c_toUnitSLa (L : List Unit) (x0 : Ob) : St := St.mk (regsOf 23 [(3, AV.sv (SV.one (AC.ref 0)))]) [x0] 0 
def Yc_toUnitSLa (L : List Unit) : List (Prop × AEx × St) := [(True, AEx.exit 0, W0c_toUnitSLa L (Ob.arr true 10 (List.map unitC L)))]
theorem Hc_toUnitSLa {L : List Unit} {k : Nat} {m : Nat} (h : (fun k => k ≤ List.length L ∧ List.length L ≤ 9223372036854775807) k) (hm : (fun k => List.length L - k) k = m) :
 Ic_toUnitSLa L m (Lc_toUnitSLa L k) := hm ▸ Head.mk h
theorem Ec_toUnitSLa {L : List Unit} {k : Nat} {x0 : SV} {x1 : Ob} (h0 : x0 = (li (↑k : Int))) (h1 : x1 = (Ob.arr true 10 (List.map unitC (fillTo L k)))) : Tc_toUnitSLa L x0 x1 =
 Lc_toUnitSLa L k := by
  rw [h0, h1]
  rfl
theorem EW0c_toUnitSLa {L : List Unit} {x0 y0 : Ob} (h0 : x0 = y0) : W0c_toUnitSLa L x0 = W0c_toUnitSLa L y0 := by rw [h0]
theorem run_c_toUnitSLa (L : List Unit) (k : Nat) : aexec Try.prog (loopAt Try.f26 0) (Lc_toUnitSLa L k) [Orc.br [Orc.cells (unitF (List.getD L k default)), Orc.call [Mode.rd]
 (unitO (List.getD L k default)) (AV.sv (unitR (List.getD L k default) 0)), Orc.cells (unitF (List.getD (fillTo L k) (Int.toNat (↑k : Int)) default)), Orc.ghost (Ghost.sel [0] [0,
 3, 4]), Orc.goto (List.length L - (k + 1)) (Lc_toUnitSLa L (k + 1))] [Orc.ghost (Ghost.sel [0] [3]), Orc.out 0]] (loopK (Ic_toUnitSLa L) (Yc_toUnitSLa L) (List.length L - k)) =
 (List.length (List.map unitC L) ≤ 9223372036854775807 → (decide ((↑k : Int) < (↑(List.length (List.map unitC L)) : Int)) = true → (0 ≤ (↑k : Int) ∧ (List.map unitC L)[Int.toNat
 (↑k : Int)]? = some (unitF (List.getD L k default))) ∧ P_c_toUnit (List.getD L k default) ∧ (0 ≤ (↑k : Int) ∧ Int.toNat (↑k : Int) < List.length (List.map unitC (fillTo L k))) ∧
 (List.map unitC (fillTo L k))[Int.toNat (↑k : Int)]? = some (unitF (List.getD (fillTo L k) (Int.toNat (↑k : Int)) default)) ∧ rng IntKind.i64 ((↑k : Int) + 1) ∧ List.length L - (k
 + 1) < List.length L - k ∧ Tc_toUnitSLa L (li ((↑k : Int) + 1)) (Ob.arr true 10 (List.set (List.map unitC (fillTo L k)) (Int.toNat (↑k : Int)) (unitF (List.getD L k default)))) =
 Lc_toUnitSLa L (k + 1) ∧ Ic_toUnitSLa L (List.length L - (k + 1)) (Lc_toUnitSLa L (k + 1))) ∧ (decide ((↑k : Int) < (↑(List.length (List.map unitC L)) : Int)) = false → True ∧
 W0c_toUnitSLa L (Ob.arr true 10 (List.map unitC (fillTo L k))) = W0c_toUnitSLa L (Ob.arr true 10 (List.map unitC L)))) := by kernel_rfl
theorem Sc_toUnitSLa (L : List Unit) (h : List.length L + sumBy wU L ≤ 1048576)  : LoopSem Try.prog (loopAt Try.f26 0) (Ic_toUnitSLa L) (Yc_toUnitSLa L) := by
  refine LoopSem.ofHead wide fun k h => ⟨_, _, run_c_toUnitSLa L k, ?_⟩
  with_reducible repeat' (first | apply And.intro | exact flatI | exact flatS | exact rowLens | (intro; skip) | apply obsN | apply obsC | apply obA | apply obM | apply obB | apply svA | apply tupA | apply lcA | apply lcS | apply svC | apply liC | apply lbC | apply lsC | apply vIc | apply vBc | apply vSc | apply vLc | apply mapC | apply Hc_toUnitSLa | apply Ec_toUnitSLa | apply EW0c_toUnitSLa | apply c_toUnit)
  all_goals (try simp only [std] at *)
  all_goals (try (first | with_reducible rfl | omega | assumption | (refine (decide_eq_true ?_).symm; assumption) | (refine (decide_eq_false ?_).symm; assumption) | (refine rowGet ?_; (first | omega | (simp only [std]; omega) | grind)) | (refine getC ?_ rfl; (first | omega | (simp only [std]; omega) | grind)) | (refine fill_step ?_ ?_; (first | omega | (simp only [std]; omega) | grind); (first | rfl | exact (Row.eq _).trans rfl)) | (refine fill_init ?_; (first | rfl | exact (Row.eq _).trans rfl)) | grind [fillTo_all, getD_mem', sumBy_mem, snocI, snocS, rowSnoc]))
theorem run_c_toUnitS (L : List Unit) : aexec Try.prog (Option.getD (Func.body Try.f26) Code.skip) (entry [] [ll (List.map unitC L)] 23) [Orc.ghost (Ghost.sel [0] [0, 3, 4]),
 Orc.loop (List.length L - 0) (Lc_toUnitSLa L 0) (Ic_toUnitSLa L) [(True, AEx.exit 0, W0c_toUnitSLa L (Ob.arr true 10 (List.map unitC L)), [Orc.fin [0]])]] (finK Try.prog
 [ResultVar.tmp 2] [Ob.arr true 10 (List.map unitC L)] (AV.sv (SV.one (AC.ref 0)))) = (List.length (List.map unitC L) ≤ 9223372036854775807 → (0 ≤ (↑(List.length (List.map unitC
 L)) : Int) ∧ 160 * Int.toNat (↑(List.length (List.map unitC L)) : Int) ≤ 281474976710656) ∧ Tc_toUnitSLa L (li 0) (Ob.arr true 10 (List.replicate (Int.toNat (↑(List.length
 (List.map unitC L)) : Int)) [cS (ByteArray.mk #[]), Cell.list [], cI 0, cI 0, Cell.list [], cI 0, cI 0, cS (ByteArray.mk #[]), Cell.list [], Cell.list []])) = Lc_toUnitSLa L 0 ∧
 Ic_toUnitSLa L (List.length L - 0) (Lc_toUnitSLa L 0) ∧ LoopSem Try.prog (loopAt Try.f26 0) (Ic_toUnitSLa L) (Yc_toUnitSLa L) ∧ (True → ObsEq [Ob.arr true 10 (List.map unitC L)]
 [Ob.arr true 10 (List.map unitC L)] ∧ AV.sv (SV.one (AC.ref 0)) = AV.sv (SV.one (AC.ref 0))) ∧ True) := by kernel_rfl
theorem c_toUnitS (L : List Unit) (h : L.length + sumBy wU L ≤ 1048576)  : P_c_toUnitS L := by
  refine CallOK.ofRun wide (run_c_toUnitS L) Try.call26 Try.func26 rfl rfl rfl ?_
  with_reducible repeat' (first | apply And.intro | exact flatI | exact flatS | exact rowLens | (intro; skip) | apply obsN | apply obsC | apply obA | apply obM | apply obB | apply svA | apply tupA | apply lcA | apply lcS | apply svC | apply liC | apply lbC | apply lsC | apply vIc | apply vBc | apply vSc | apply vLc | apply mapC | apply Hc_toUnitSLa | apply Ec_toUnitSLa | apply Sc_toUnitSLa | apply EW0c_toUnitSLa | apply c_toUnit)
  all_goals (try simp only [std] at *)
  all_goals (try (first | with_reducible rfl | omega | assumption | (refine (decide_eq_true ?_).symm; assumption) | (refine (decide_eq_false ?_).symm; assumption) | (refine rowGet ?_; (first | omega | (simp only [std]; omega) | grind)) | (refine getC ?_ rfl; (first | omega | (simp only [std]; omega) | grind)) | (refine fill_step ?_ ?_; (first | omega | (simp only [std]; omega) | grind); (first | rfl | exact (Row.eq _).trans rfl)) | (refine fill_init ?_; (first | rfl | exact (Row.eq _).trans rfl)) | grind [snocI, snocS, rowSnoc]))
abbrev P_c_toWorld (x : World) : Prop := CallOK Try.prog 68 [] [worldA x] (worldO x) (.sv (worldR x 0))
theorem run_c_toWorld (x : World) : aexec Try.prog (Option.getD (Func.body Try.f68) Code.skip) (entry [] [worldA x] 17) [Orc.call [Mode.rd] (expanderO (World.expander x)) (AV.sv
 (expanderR (World.expander x) 0)), Orc.call [Mode.rd] [Ob.arr true 10 (List.map unitC (World.units x))] (AV.sv (SV.one (AC.ref 0))), Orc.call [Mode.rd] [Ob.arr true 4 (List.map
 exportC (World.exports x))] (AV.sv (SV.one (AC.ref 0))), Orc.fin [3, 4, 5, 6]] (finK Try.prog [ResultVar.cell 2 110] (worldO x) (AV.sv (worldR x 0))) = (P_c_toExpander
 (World.expander x) ∧ P_c_toUnitS (World.units x) ∧ P_c_toExportS (World.exports x) ∧ ObsEq [Ob.arr true 4 (List.map bindingC (Expander.bindings (World.expander x))), Ob.arr true 3
 (List.map rulesC (Expander.macros (World.expander x))), Ob.arr true 10 (List.map unitC (World.units x)), Ob.arr true 4 (List.map exportC (World.exports x))] [Ob.arr true 4
 (List.map bindingC (Expander.bindings (World.expander x))), Ob.arr true 3 (List.map rulesC (Expander.macros (World.expander x))), Ob.arr true 10 (List.map unitC (World.units x)),
 Ob.arr true 4 (List.map exportC (World.exports x))] ∧ AV.sv (SV.agg [AC.ref 0, AC.ref 1, vI (Expander.scope (World.expander x)), vI (Expander.vari (World.expander x)), vI
 (Expander.steps (World.expander x)), AC.ref 2, AC.ref 3]) = AV.sv (SV.agg [AC.ref 0, AC.ref 1, vI (Expander.scope (World.expander x)), vI (Expander.vari (World.expander x)), vI
 (Expander.steps (World.expander x)), AC.ref 2, AC.ref 3])) := by kernel_rfl
theorem c_toWorld (x : World) (h : wW x ≤ 1048576)  : P_c_toWorld x := by
  refine CallOK.ofRun wide (run_c_toWorld x) Try.call68 Try.func68 rfl rfl rfl ?_
  with_reducible repeat' (first | apply And.intro | exact flatI | exact flatS | exact rowLens | (intro; skip) | apply obsN | apply obsC | apply obA | apply obM | apply obB | apply svA | apply tupA | apply lcA | apply lcS | apply svC | apply liC | apply lbC | apply lsC | apply vIc | apply vBc | apply vSc | apply vLc | apply mapC | apply c_toExpander | apply c_toUnitS | apply c_toExportS)
  all_goals (try simp only [std] at *)
  all_goals (try (first | with_reducible rfl | omega | assumption | (refine (decide_eq_true ?_).symm; assumption) | (refine (decide_eq_false ?_).symm; assumption) | (refine rowGet ?_; (first | omega | (simp only [std]; omega) | grind)) | (refine getC ?_ rfl; (first | omega | (simp only [std]; omega) | grind)) | (refine fill_step ?_ ?_; (first | omega | (simp only [std]; omega) | grind); (first | rfl | exact (Row.eq _).trans rfl)) | (refine fill_init ?_; (first | rfl | exact (Row.eq _).trans rfl)) | grind [wW_eq, wS, snocI, snocS, rowSnoc]))
end Go.Proofs.Ytehpjofddjmbpaa
end
