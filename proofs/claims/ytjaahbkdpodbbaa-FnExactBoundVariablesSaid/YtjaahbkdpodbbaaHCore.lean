/- The contracts of the functions with which the laws measure, build and compare data and terms. No condition. -/
import Derived.Test.YtjaahbkdpodbbaaData
namespace Go.Proofs.Ytjaahbkdpodbbaa
open Go Go.Proofs.Ytjaahbkdpodbbaa.Ab
set_option linter.unusedVariables false
set_option linter.unusedSimpArgs false

theorem run_c_szIntS (L : List Int) (left : Int) : aexec Try.prog (Option.getD (Func.body Try.f58) Code.skip) (entry [] [ll (List.map intC L), li left] 12) [Orc.br [Orc.fin []]
 [Orc.fin []]] (finK Try.prog [ResultVar.tmp 4] [] (AV.sv (li (sz (List.length L) left)))) = (List.length (List.map intC L) ≤ 9223372036854775807 → rng IntKind.i64 (left -
 (↑(List.length (List.map intC L)) : Int)) ∧ (decide (left - (↑(List.length (List.map intC L)) : Int) < 0) = true → ObsEq [] [] ∧ AV.sv (li (-1)) = AV.sv (li (sz (List.length L)
 left))) ∧ (decide (left - (↑(List.length (List.map intC L)) : Int) < 0) = false → ObsEq [] [] ∧ AV.sv (li (left - (↑(List.length (List.map intC L)) : Int))) = AV.sv (li (sz
 (List.length L) left)))) := by kernel_rfl
theorem c_szIntS (L : List Int) (left : Int) (h0 : 0 ≤ left) (h : left ≤ 2147483647)  : CallOK Try.prog 58 [] [ll (L.map intC), li left] [] (.sv (li (sz L.length left))) := by
  refine CallOK.ofRun wide (run_c_szIntS L left) Try.call58 Try.func58 rfl rfl rfl ?_
  with_reducible repeat' (first | apply And.intro | (intro; skip))
  all_goals (try simp only [size_list, List.length_map, Int.toNat_natCast, rng64, obsEq_iff, List.length_append, List.length_replicate, fillTo_len, decide_eq_true_eq, decide_eq_false_iff_not, ne_eq, lb_inj, li_inj, ls_inj, mk_toArray, tx_mkS, mkS_inj, size_mkS] at *)
  all_goals (try (first | with_reducible rfl | omega | assumption | exact getC (by first | omega | (simp only [fillTo_len]; omega) | grind) rfl | exact outcomeGet (by first | omega | (simp only [fillTo_len]; omega) | grind) | exact datumGet (by first | omega | (simp only [fillTo_len]; omega) | grind) | exact coreGet (by first | omega | (simp only [fillTo_len]; omega) | grind) | exact congrArg (Ob.arr true _) (fill_step (by first | omega | (simp only [fillTo_len]; omega) | grind) (by first | rfl | exact outcomeC_eq _ | exact datumC_eq _ | exact coreC_eq _)) | exact congrArg (Ob.arr true _) (fill_init (by first | rfl | exact outcomeC_eq _ | exact datumC_eq _ | exact coreC_eq _)) | grind [sz]))


def Tc_toIntSLa (L : List Int) (x0 : SV) (x1 : Ob) : St := St.mk (regsOf 22 [(0, AV.sv (ll (List.map intC L))), (3, AV.sv (SV.one (AC.ref 0))), (4, AV.sv x0)]) [x1] 0 
def Lc_toIntSLa (L : List Int) (k : Nat) : St := Tc_toIntSLa L (li (↑k : Int)) (Ob.arr true 1 (List.map intC (fillTo L k))) 
def Ic_toIntSLa (L : List Int) : Nat → St → Prop := Head (Lc_toIntSLa L) (fun k => k ≤ List.length L) fun k => List.length L - k 
def W0c_toIntSLa (L : List Int) (x0 : Ob) : St := St.mk (regsOf 22 [(3, AV.sv (SV.one (AC.ref 0)))]) [x0] 0 
def Yc_toIntSLa (L : List Int) : List (Prop × AEx × St) := [(True, AEx.exit 0, W0c_toIntSLa L (Ob.arr true 1 (List.map intC L)))]
theorem Hc_toIntSLa {L : List Int} {k : Nat} {m : Nat} (h : (fun k => k ≤ List.length L) k) (hm : (fun k => List.length L - k) k = m) : Ic_toIntSLa L m (Lc_toIntSLa L k) := hm ▸
 Head.mk h
theorem Ec_toIntSLa {L : List Int} {k : Nat} {x0 : SV} {x1 : Ob} (h0 : x0 = (li (↑k : Int))) (h1 : x1 = (Ob.arr true 1 (List.map intC (fillTo L k)))) : Tc_toIntSLa L x0 x1 =
 Lc_toIntSLa L k := by (rw [h0, h1]; rfl)
theorem run_c_toIntSLa (L : List Int) (k : Nat) : aexec Try.prog (loopAt Try.f61 0) (Lc_toIntSLa L k) [Orc.br [Orc.cells (intC (List.getD L k default)), Orc.cells (intC (List.getD
 (fillTo L k) (Int.toNat (↑k : Int)) default)), Orc.ghost (Ghost.sel [0] [0, 3, 4]), Orc.goto (List.length L - (k + 1)) (Lc_toIntSLa L (k + 1))] [Orc.ghost (Ghost.sel [0] [3]),
 Orc.out 0]] (loopK (Ic_toIntSLa L) (Yc_toIntSLa L) (List.length L - k)) = (List.length (List.map intC L) ≤ 9223372036854775807 → (decide ((↑k : Int) < (↑(List.length (List.map
 intC L)) : Int)) = true → (0 ≤ (↑k : Int) ∧ (List.map intC L)[Int.toNat (↑k : Int)]? = some [cI (List.getD L k 0)]) ∧ (0 ≤ (↑k : Int) ∧ Int.toNat (↑k : Int) < List.length
 (List.map intC (fillTo L k))) ∧ (List.map intC (fillTo L k))[Int.toNat (↑k : Int)]? = some [cI (List.getD (fillTo L k) (Int.toNat (↑k : Int)) 0)] ∧ rng IntKind.i64 ((↑k : Int) +
 1) ∧ List.length L - (k + 1) < List.length L - k ∧ Tc_toIntSLa L (li ((↑k : Int) + 1)) (Ob.arr true 1 (List.set (List.map intC (fillTo L k)) (Int.toNat (↑k : Int)) [cI (List.getD
 L k 0)])) = Lc_toIntSLa L (k + 1) ∧ Ic_toIntSLa L (List.length L - (k + 1)) (Lc_toIntSLa L (k + 1))) ∧ (decide ((↑k : Int) < (↑(List.length (List.map intC L)) : Int)) = false →
 True ∧ W0c_toIntSLa L (Ob.arr true 1 (List.map intC (fillTo L k))) = W0c_toIntSLa L (Ob.arr true 1 (List.map intC L)))) := by kernel_rfl
theorem Sc_toIntSLa (L : List Int) (h : List.length L ≤ 1048576)  : LoopSem Try.prog (loopAt Try.f61 0) (Ic_toIntSLa L) (Yc_toIntSLa L) := by
  refine LoopSem.ofHead wide fun k h => ⟨_, _, run_c_toIntSLa L k, ?_⟩
  with_reducible repeat' (first | apply And.intro | (intro; skip) | apply Hc_toIntSLa | apply Ec_toIntSLa)
  all_goals (try simp only [size_list, List.length_map, Int.toNat_natCast, rng64, obsEq_iff, List.length_append, List.length_replicate, fillTo_len, decide_eq_true_eq, decide_eq_false_iff_not, ne_eq, lb_inj, li_inj, ls_inj, mk_toArray, tx_mkS, mkS_inj, size_mkS] at *)
  all_goals (try (first | with_reducible rfl | omega | assumption | exact getC (by first | omega | (simp only [fillTo_len]; omega) | grind) rfl | exact outcomeGet (by first | omega | (simp only [fillTo_len]; omega) | grind) | exact datumGet (by first | omega | (simp only [fillTo_len]; omega) | grind) | exact coreGet (by first | omega | (simp only [fillTo_len]; omega) | grind) | exact congrArg (Ob.arr true _) (fill_step (by first | omega | (simp only [fillTo_len]; omega) | grind) (by first | rfl | exact outcomeC_eq _ | exact datumC_eq _ | exact coreC_eq _)) | exact congrArg (Ob.arr true _) (fill_init (by first | rfl | exact outcomeC_eq _ | exact datumC_eq _ | exact coreC_eq _)) | grind [fillTo_all]))
theorem run_c_toIntS (L : List Int) : aexec Try.prog (Option.getD (Func.body Try.f61) Code.skip) (entry [] [ll (List.map intC L)] 22) [Orc.ghost (Ghost.sel [0] [0, 3, 4]), Orc.loop
 (List.length L - 0) (Lc_toIntSLa L 0) (Ic_toIntSLa L) [(True, AEx.exit 0, W0c_toIntSLa L (Ob.arr true 1 (List.map intC L)), [Orc.fin [0]])]] (finK Try.prog [ResultVar.tmp 2]
 [Ob.arr true 1 (List.map intC L)] (AV.sv (SV.one (AC.ref 0)))) = (List.length (List.map intC L) ≤ 9223372036854775807 → (0 ≤ (↑(List.length (List.map intC L)) : Int) ∧ 8 *
 Int.toNat (↑(List.length (List.map intC L)) : Int) ≤ 281474976710656) ∧ Tc_toIntSLa L (li 0) (Ob.arr true 1 (List.replicate (Int.toNat (↑(List.length (List.map intC L)) : Int))
 [cI 0])) = Lc_toIntSLa L 0 ∧ Ic_toIntSLa L (List.length L - 0) (Lc_toIntSLa L 0) ∧ LoopSem Try.prog (loopAt Try.f61 0) (Ic_toIntSLa L) (Yc_toIntSLa L) ∧ (True → ObsEq [Ob.arr true
 1 (List.map intC L)] [Ob.arr true 1 (List.map intC L)] ∧ AV.sv (SV.one (AC.ref 0)) = AV.sv (SV.one (AC.ref 0))) ∧ True) := by kernel_rfl
theorem c_toIntS (L : List Int) (h : L.length ≤ 1048576)  : CallOK Try.prog 61 [] [ll (L.map intC)] [.arr true 1 (L.map intC)] (.sv (.one (.ref 0))) := by
  refine CallOK.ofRun wide (run_c_toIntS L) Try.call61 Try.func61 rfl rfl rfl ?_
  with_reducible repeat' (first | apply And.intro | (intro; skip) | apply Hc_toIntSLa | apply Ec_toIntSLa | apply Sc_toIntSLa)
  all_goals (try simp only [size_list, List.length_map, Int.toNat_natCast, rng64, obsEq_iff, List.length_append, List.length_replicate, fillTo_len, decide_eq_true_eq, decide_eq_false_iff_not, ne_eq, lb_inj, li_inj, ls_inj, mk_toArray, tx_mkS, mkS_inj, size_mkS] at *)
  all_goals (try (first | with_reducible rfl | omega | assumption | exact getC (by first | omega | (simp only [fillTo_len]; omega) | grind) rfl | exact outcomeGet (by first | omega | (simp only [fillTo_len]; omega) | grind) | exact datumGet (by first | omega | (simp only [fillTo_len]; omega) | grind) | exact coreGet (by first | omega | (simp only [fillTo_len]; omega) | grind) | exact congrArg (Ob.arr true _) (fill_step (by first | omega | (simp only [fillTo_len]; omega) | grind) (by first | rfl | exact outcomeC_eq _ | exact datumC_eq _ | exact coreC_eq _)) | exact congrArg (Ob.arr true _) (fill_init (by first | rfl | exact outcomeC_eq _ | exact datumC_eq _ | exact coreC_eq _)) | grind))


def Tc_eqIntSLa (A : List Int) (B : List Int) (x0 : SV) : St := St.mk (regsOf 26 [(0, AV.sv (ll (List.map intC A))), (1, AV.sv (ll (List.map intC B))), (5, AV.sv x0)]) [] 0 
def Lc_eqIntSLa (A : List Int) (B : List Int) (k : Nat) : St := Tc_eqIntSLa A B (li (↑k : Int)) 
def Ic_eqIntSLa (A : List Int) (B : List Int) : Nat → St → Prop := Head (Lc_eqIntSLa A B) (fun k => k ≤ List.length A ∧ List.length A ≤ 9223372036854775807 ∧ List.length A =
 List.length B ∧ List.take k A = List.take k B) fun k => List.length A - k 
def W0c_eqIntSLa (A : List Int) (B : List Int) : St := St.mk (regsOf 26 []) [] 0 
def W1c_eqIntSLa (A : List Int) (B : List Int) (x0 : SV) : St := St.mk (regsOf 26 [(4, AV.sv x0)]) [] 0 
def Yc_eqIntSLa (A : List Int) (B : List Int) : List (Prop × AEx × St) := [(A = B, AEx.exit 0, W0c_eqIntSLa A B), (A ≠ B, AEx.ret, W1c_eqIntSLa A B (lb false))]
theorem Hc_eqIntSLa {A : List Int} {B : List Int} {k : Nat} {m : Nat} (h : (fun k => k ≤ List.length A ∧ List.length A ≤ 9223372036854775807 ∧ List.length A = List.length B ∧
 List.take k A = List.take k B) k) (hm : (fun k => List.length A - k) k = m) : Ic_eqIntSLa A B m (Lc_eqIntSLa A B k) := hm ▸ Head.mk h
theorem Ec_eqIntSLa {A : List Int} {B : List Int} {k : Nat} {x0 : SV} (h0 : x0 = (li (↑k : Int))) : Tc_eqIntSLa A B x0 = Lc_eqIntSLa A B k := by (rw [h0]; rfl)
theorem run_c_eqIntSLa (A : List Int) (B : List Int) (k : Nat) : aexec Try.prog (loopAt Try.f41 0) (Lc_eqIntSLa A B k) [Orc.br [Orc.draw [], Orc.cells (intC (List.getD A k
 default)), Orc.cells (intC (List.getD B k default)), Orc.br [Orc.ghost (Ghost.sel [] [4]), Orc.out 1] [Orc.ghost (Ghost.sel [] [0, 1, 5]), Orc.goto (List.length A - (k + 1))
 (Lc_eqIntSLa A B (k + 1))]] [Orc.ghost (Ghost.sel [] []), Orc.out 0]] (loopK (Ic_eqIntSLa A B) (Yc_eqIntSLa A B) (List.length A - k)) = (List.length (List.map intC A) ≤
 9223372036854775807 → (decide ((↑k : Int) < (↑(List.length (List.map intC A)) : Int)) = true → (0 ≤ (↑k : Int) ∧ (List.map intC A)[Int.toNat (↑k : Int)]? = some [cI (List.getD A k
 0)]) ∧ (0 ≤ (↑k : Int) ∧ (List.map intC B)[Int.toNat (↑k : Int)]? = some [cI (List.getD B k 0)]) ∧ (decide (List.getD A k 0 ≠ List.getD B k 0) = true → A ≠ B ∧ W1c_eqIntSLa A B
 (lb false) = W1c_eqIntSLa A B (lb false)) ∧ (decide (List.getD A k 0 ≠ List.getD B k 0) = false → rng IntKind.i64 ((↑k : Int) + 1) ∧ List.length A - (k + 1) < List.length A - k ∧
 Tc_eqIntSLa A B (li ((↑k : Int) + 1)) = Lc_eqIntSLa A B (k + 1) ∧ Ic_eqIntSLa A B (List.length A - (k + 1)) (Lc_eqIntSLa A B (k + 1)))) ∧ (decide ((↑k : Int) < (↑(List.length
 (List.map intC A)) : Int)) = false → A = B ∧ W0c_eqIntSLa A B = W0c_eqIntSLa A B)) := by kernel_rfl
theorem Sc_eqIntSLa (A : List Int) (B : List Int)  : LoopSem Try.prog (loopAt Try.f41 0) (Ic_eqIntSLa A B) (Yc_eqIntSLa A B) := by
  refine LoopSem.ofHead wide fun k h => ⟨_, _, run_c_eqIntSLa A B k, ?_⟩
  with_reducible repeat' (first | apply And.intro | (intro; skip) | apply Hc_eqIntSLa | apply Ec_eqIntSLa)
  all_goals (try simp only [size_list, List.length_map, Int.toNat_natCast, rng64, obsEq_iff, List.length_append, List.length_replicate, fillTo_len, decide_eq_true_eq, decide_eq_false_iff_not, ne_eq, lb_inj, li_inj, ls_inj, mk_toArray, tx_mkS, mkS_inj, size_mkS] at *)
  all_goals (try (first | with_reducible rfl | omega | assumption | exact getC (by first | omega | (simp only [fillTo_len]; omega) | grind) rfl | exact outcomeGet (by first | omega | (simp only [fillTo_len]; omega) | grind) | exact datumGet (by first | omega | (simp only [fillTo_len]; omega) | grind) | exact coreGet (by first | omega | (simp only [fillTo_len]; omega) | grind) | exact congrArg (Ob.arr true _) (fill_step (by first | omega | (simp only [fillTo_len]; omega) | grind) (by first | rfl | exact outcomeC_eq _ | exact datumC_eq _ | exact coreC_eq _)) | exact congrArg (Ob.arr true _) (fill_init (by first | rfl | exact outcomeC_eq _ | exact datumC_eq _ | exact coreC_eq _)) | grind [take_eq]))
theorem run_c_eqIntS (A : List Int) (B : List Int) : aexec Try.prog (Option.getD (Func.body Try.f41) Code.skip) (entry [] [ll (List.map intC A), ll (List.map intC B)] 26) [Orc.br
 [Orc.fin []] [Orc.ghost (Ghost.sel [] [0, 1, 5]), Orc.loop (List.length A - 0) (Lc_eqIntSLa A B 0) (Ic_eqIntSLa A B) [(A = B, AEx.exit 0, W0c_eqIntSLa A B, [Orc.fin []]), (A ≠ B,
 AEx.ret, W1c_eqIntSLa A B (lb false), [Orc.fin []])]]] (finK Try.prog [ResultVar.tmp 4] [] (AV.sv (lb (decide (A = B))))) = (List.length (List.map intC A) ≤ 9223372036854775807 →
 List.length (List.map intC B) ≤ 9223372036854775807 → (decide ((↑(List.length (List.map intC A)) : Int) ≠ (↑(List.length (List.map intC B)) : Int)) = true → ObsEq [] [] ∧ AV.sv
 (lb false) = AV.sv (lb (decide (A = B)))) ∧ (decide ((↑(List.length (List.map intC A)) : Int) ≠ (↑(List.length (List.map intC B)) : Int)) = false → Tc_eqIntSLa A B (li 0) =
 Lc_eqIntSLa A B 0 ∧ Ic_eqIntSLa A B (List.length A - 0) (Lc_eqIntSLa A B 0) ∧ LoopSem Try.prog (loopAt Try.f41 0) (Ic_eqIntSLa A B) (Yc_eqIntSLa A B) ∧ (A = B → ObsEq [] [] ∧
 AV.sv (lb true) = AV.sv (lb (decide (A = B)))) ∧ ((A = B → False) → ObsEq [] [] ∧ AV.sv (lb false) = AV.sv (lb (decide (A = B)))) ∧ True)) := by kernel_rfl
theorem c_eqIntS (A B : List Int)  : CallOK Try.prog 41 [] [ll (A.map intC), ll (B.map intC)] [] (.sv (lb (decide (A = B)))) := by
  refine CallOK.ofRun wide (run_c_eqIntS A B) Try.call41 Try.func41 rfl rfl rfl ?_
  with_reducible repeat' (first | apply And.intro | (intro; skip) | apply Hc_eqIntSLa | apply Ec_eqIntSLa | apply Sc_eqIntSLa)
  all_goals (try simp only [size_list, List.length_map, Int.toNat_natCast, rng64, obsEq_iff, List.length_append, List.length_replicate, fillTo_len, decide_eq_true_eq, decide_eq_false_iff_not, ne_eq, lb_inj, li_inj, ls_inj, mk_toArray, tx_mkS, mkS_inj, size_mkS] at *)
  all_goals (try (first | with_reducible rfl | omega | assumption | exact getC (by first | omega | (simp only [fillTo_len]; omega) | grind) rfl | exact outcomeGet (by first | omega | (simp only [fillTo_len]; omega) | grind) | exact datumGet (by first | omega | (simp only [fillTo_len]; omega) | grind) | exact coreGet (by first | omega | (simp only [fillTo_len]; omega) | grind) | exact congrArg (Ob.arr true _) (fill_step (by first | omega | (simp only [fillTo_len]; omega) | grind) (by first | rfl | exact outcomeC_eq _ | exact datumC_eq _ | exact coreC_eq _)) | exact congrArg (Ob.arr true _) (fill_init (by first | rfl | exact outcomeC_eq _ | exact datumC_eq _ | exact coreC_eq _)) | grind))


def Tc_szStringSLa (L : List ByteArray) (left : Int) (x0 : SV) (x1 : SV) : St := St.mk (regsOf 28 [(0, AV.sv (ll (List.map strC L))), (1, AV.sv x1), (5, AV.sv x0)]) [] 0 
def Lc_szStringSLa (L : List ByteArray) (left : Int) (k : Nat × Int) : St := Tc_szStringSLa L left (li (↑(Prod.fst k) : Int)) (li (Prod.snd k)) 
def Ic_szStringSLa (L : List ByteArray) (left : Int) : Nat → St → Prop := Head (Lc_szStringSLa L left) (fun k => Prod.fst k ≤ List.length L ∧ 0 ≤ Prod.snd k ∧ Prod.snd k ≤ left ∧
 sz (sumBy ByteArray.size (List.drop (Prod.fst k) L)) (Prod.snd k) = sz (wS L) left) fun k => List.length L - Prod.fst k 
def W0c_szStringSLa (L : List ByteArray) (left : Int) (x0 : SV) : St := St.mk (regsOf 28 [(1, AV.sv x0)]) [] 0 
def W1c_szStringSLa (L : List ByteArray) (left : Int) (x0 : SV) : St := St.mk (regsOf 28 [(4, AV.sv x0)]) [] 0 
def Yc_szStringSLa (L : List ByteArray) (left : Int) : List (Prop × AEx × St) := [(0 ≤ sz (wS L) left, AEx.exit 0, W0c_szStringSLa L left (li (sz (wS L) left))), (sz (wS L) left =
 -1, AEx.ret, W1c_szStringSLa L left (li (-1)))]
theorem Hc_szStringSLa {L : List ByteArray} {left : Int} {k : Nat × Int} {m : Nat} (h : (fun k => Prod.fst k ≤ List.length L ∧ 0 ≤ Prod.snd k ∧ Prod.snd k ≤ left ∧ sz (sumBy
 ByteArray.size (List.drop (Prod.fst k) L)) (Prod.snd k) = sz (wS L) left) k) (hm : (fun k => List.length L - Prod.fst k) k = m) : Ic_szStringSLa L left m (Lc_szStringSLa L left k)
 := hm ▸ Head.mk h
theorem Ec_szStringSLa {L : List ByteArray} {left : Int} {k : Nat × Int} {x0 : SV} {x1 : SV} (h0 : x0 = (li (↑(Prod.fst k) : Int))) (h1 : x1 = (li (Prod.snd k))) : Tc_szStringSLa L
 left x0 x1 = Lc_szStringSLa L left k := by (rw [h0, h1]; rfl)
theorem run_c_szStringSLa (L : List ByteArray) (left : Int) (k : Nat × Int) : aexec Try.prog (loopAt Try.f53 0) (Lc_szStringSLa L left k) [Orc.br [Orc.cells (strC (List.getD L
 (Prod.fst k) default)), Orc.br [Orc.ghost (Ghost.sel [] [4]), Orc.out 1] [Orc.ghost (Ghost.sel [] [0, 1, 5]), Orc.goto (List.length L - (Prod.fst k + 1)) (Lc_szStringSLa L left
 (Prod.fst k + 1, Prod.snd k - (↑(List.length (Array.toList (ByteArray.data (List.getD L (Prod.fst k) default)))) : Int)))]] [Orc.ghost (Ghost.sel [] [1]), Orc.out 0]] (loopK
 (Ic_szStringSLa L left) (Yc_szStringSLa L left) (List.length L - Prod.fst k)) = (List.length (List.map strC L) ≤ 9223372036854775807 → (decide ((↑(Prod.fst k) : Int) <
 (↑(List.length (List.map strC L)) : Int)) = true → (0 ≤ (↑(Prod.fst k) : Int) ∧ (List.map strC L)[Int.toNat (↑(Prod.fst k) : Int)]? = some [cS (List.getD L (Prod.fst k) default)])
 ∧ (List.length (Array.toList (ByteArray.data (List.getD L (Prod.fst k) default))) ≤ 9223372036854775807 → rng IntKind.i64 (Prod.snd k - (↑(List.length (Array.toList
 (ByteArray.data (List.getD L (Prod.fst k) default)))) : Int)) ∧ (decide (Prod.snd k - (↑(List.length (Array.toList (ByteArray.data (List.getD L (Prod.fst k) default)))) : Int) <
 0) = true → sz (wS L) left = -1 ∧ W1c_szStringSLa L left (li (-1)) = W1c_szStringSLa L left (li (-1))) ∧ (decide (Prod.snd k - (↑(List.length (Array.toList (ByteArray.data
 (List.getD L (Prod.fst k) default)))) : Int) < 0) = false → rng IntKind.i64 ((↑(Prod.fst k) : Int) + 1) ∧ List.length L - (Prod.fst k + 1) < List.length L - Prod.fst k ∧
 Tc_szStringSLa L left (li ((↑(Prod.fst k) : Int) + 1)) (li (Prod.snd k - (↑(List.length (Array.toList (ByteArray.data (List.getD L (Prod.fst k) default)))) : Int))) =
 Lc_szStringSLa L left (Prod.fst k + 1, Prod.snd k - (↑(List.length (Array.toList (ByteArray.data (List.getD L (Prod.fst k) default)))) : Int)) ∧ Ic_szStringSLa L left (List.length
 L - (Prod.fst k + 1)) (Lc_szStringSLa L left (Prod.fst k + 1, Prod.snd k - (↑(List.length (Array.toList (ByteArray.data (List.getD L (Prod.fst k) default)))) : Int)))))) ∧ (decide
 ((↑(Prod.fst k) : Int) < (↑(List.length (List.map strC L)) : Int)) = false → 0 ≤ sz (wS L) left ∧ W0c_szStringSLa L left (li (Prod.snd k)) = W0c_szStringSLa L left (li (sz (wS L)
 left)))) := by kernel_rfl
theorem Sc_szStringSLa (L : List ByteArray) (left : Int) (h0 : 0 ≤ left) (h : left ≤ 2147483647)  : LoopSem Try.prog (loopAt Try.f53 0) (Ic_szStringSLa L left) (Yc_szStringSLa L
 left) := by
  refine LoopSem.ofHead wide fun k h => ⟨_, _, run_c_szStringSLa L left k, ?_⟩
  obtain ⟨i, n⟩ := k
  simp only at *
  with_reducible repeat' (first | apply And.intro | (intro; skip) | apply Hc_szStringSLa | apply Ec_szStringSLa)
  all_goals (try simp only [size_list, List.length_map, Int.toNat_natCast, rng64, obsEq_iff, List.length_append, List.length_replicate, fillTo_len, decide_eq_true_eq, decide_eq_false_iff_not, ne_eq, lb_inj, li_inj, ls_inj, mk_toArray, tx_mkS, mkS_inj, size_mkS] at *)
  all_goals (try (first | with_reducible rfl | omega | assumption | exact getC (by first | omega | (simp only [fillTo_len]; omega) | grind) rfl | exact outcomeGet (by first | omega | (simp only [fillTo_len]; omega) | grind) | exact datumGet (by first | omega | (simp only [fillTo_len]; omega) | grind) | exact coreGet (by first | omega | (simp only [fillTo_len]; omega) | grind) | exact congrArg (Ob.arr true _) (fill_step (by first | omega | (simp only [fillTo_len]; omega) | grind) (by first | rfl | exact outcomeC_eq _ | exact datumC_eq _ | exact coreC_eq _)) | exact congrArg (Ob.arr true _) (fill_init (by first | rfl | exact outcomeC_eq _ | exact datumC_eq _ | exact coreC_eq _)) | grind [drop_get, sumBy, sz]))
theorem run_c_szStringS (L : List ByteArray) (left : Int) : aexec Try.prog (Option.getD (Func.body Try.f53) Code.skip) (entry [] [ll (List.map strC L), li left] 28) [Orc.br
 [Orc.fin []] [Orc.ghost (Ghost.sel [] [0, 1, 5]), Orc.loop (List.length L - 0) (Lc_szStringSLa L left (0, left - (↑(List.length L) : Int))) (Ic_szStringSLa L left) [(0 ≤ sz (wS L)
 left, AEx.exit 0, W0c_szStringSLa L left (li (sz (wS L) left)), [Orc.fin []]), (sz (wS L) left = -1, AEx.ret, W1c_szStringSLa L left (li (-1)), [Orc.fin []])]]] (finK Try.prog
 [ResultVar.tmp 4] [] (AV.sv (li (sz (wS L) left)))) = (List.length (List.map strC L) ≤ 9223372036854775807 → rng IntKind.i64 (left - (↑(List.length (List.map strC L)) : Int)) ∧
 (decide (left - (↑(List.length (List.map strC L)) : Int) < 0) = true → ObsEq [] [] ∧ AV.sv (li (-1)) = AV.sv (li (sz (wS L) left))) ∧ (decide (left - (↑(List.length (List.map strC
 L)) : Int) < 0) = false → Tc_szStringSLa L left (li 0) (li (left - (↑(List.length (List.map strC L)) : Int))) = Lc_szStringSLa L left (0, left - (↑(List.length L) : Int)) ∧
 Ic_szStringSLa L left (List.length L - 0) (Lc_szStringSLa L left (0, left - (↑(List.length L) : Int))) ∧ LoopSem Try.prog (loopAt Try.f53 0) (Ic_szStringSLa L left)
 (Yc_szStringSLa L left) ∧ (Int.NonNeg (sz (wS L) left - 0) → ObsEq [] [] ∧ AV.sv (li (sz (wS L) left)) = AV.sv (li (sz (wS L) left))) ∧ (sz (wS L) left = -1 → ObsEq [] [] ∧ AV.sv
 (li (-1)) = AV.sv (li (sz (wS L) left))) ∧ True)) := by kernel_rfl
theorem c_szStringS (L : List ByteArray) (left : Int) (h0 : 0 ≤ left) (h : left ≤ 2147483647)  : CallOK Try.prog 53 [] [ll (L.map strC), li left] [] (.sv (li (sz (wS L) left))) :=
 by
  refine CallOK.ofRun wide (run_c_szStringS L left) Try.call53 Try.func53 rfl rfl rfl ?_
  with_reducible repeat' (first | apply And.intro | (intro; skip) | apply Hc_szStringSLa | apply Ec_szStringSLa | apply Sc_szStringSLa)
  all_goals (try simp only [size_list, List.length_map, Int.toNat_natCast, rng64, obsEq_iff, List.length_append, List.length_replicate, fillTo_len, decide_eq_true_eq, decide_eq_false_iff_not, ne_eq, lb_inj, li_inj, ls_inj, mk_toArray, tx_mkS, mkS_inj, size_mkS] at *)
  all_goals (try (first | with_reducible rfl | omega | assumption | exact getC (by first | omega | (simp only [fillTo_len]; omega) | grind) rfl | exact outcomeGet (by first | omega | (simp only [fillTo_len]; omega) | grind) | exact datumGet (by first | omega | (simp only [fillTo_len]; omega) | grind) | exact coreGet (by first | omega | (simp only [fillTo_len]; omega) | grind) | exact congrArg (Ob.arr true _) (fill_step (by first | omega | (simp only [fillTo_len]; omega) | grind) (by first | rfl | exact outcomeC_eq _ | exact datumC_eq _ | exact coreC_eq _)) | exact congrArg (Ob.arr true _) (fill_init (by first | rfl | exact outcomeC_eq _ | exact datumC_eq _ | exact coreC_eq _)) | grind [wS, sz]))


def Tc_toStringSLa (L : List ByteArray) (x0 : SV) (x1 : Ob) : St := St.mk (regsOf 22 [(0, AV.sv (ll (List.map strC L))), (3, AV.sv (SV.one (AC.ref 0))), (4, AV.sv x0)]) [x1] 0 
def Lc_toStringSLa (L : List ByteArray) (k : Nat) : St := Tc_toStringSLa L (li (↑k : Int)) (Ob.arr true 1 (List.map strC (fillTo L k))) 
def Ic_toStringSLa (L : List ByteArray) : Nat → St → Prop := Head (Lc_toStringSLa L) (fun k => k ≤ List.length L) fun k => List.length L - k 
def W0c_toStringSLa (L : List ByteArray) (x0 : Ob) : St := St.mk (regsOf 22 [(3, AV.sv (SV.one (AC.ref 0)))]) [x0] 0 
def Yc_toStringSLa (L : List ByteArray) : List (Prop × AEx × St) := [(True, AEx.exit 0, W0c_toStringSLa L (Ob.arr true 1 (List.map strC L)))]
theorem Hc_toStringSLa {L : List ByteArray} {k : Nat} {m : Nat} (h : (fun k => k ≤ List.length L) k) (hm : (fun k => List.length L - k) k = m) : Ic_toStringSLa L m (Lc_toStringSLa
 L k) := hm ▸ Head.mk h
theorem Ec_toStringSLa {L : List ByteArray} {k : Nat} {x0 : SV} {x1 : Ob} (h0 : x0 = (li (↑k : Int))) (h1 : x1 = (Ob.arr true 1 (List.map strC (fillTo L k)))) : Tc_toStringSLa L x0
 x1 = Lc_toStringSLa L k := by (rw [h0, h1]; rfl)
theorem run_c_toStringSLa (L : List ByteArray) (k : Nat) : aexec Try.prog (loopAt Try.f55 0) (Lc_toStringSLa L k) [Orc.br [Orc.cells (strC (List.getD L k default)), Orc.cells (strC
 (List.getD (fillTo L k) (Int.toNat (↑k : Int)) default)), Orc.ghost (Ghost.sel [0] [0, 3, 4]), Orc.goto (List.length L - (k + 1)) (Lc_toStringSLa L (k + 1))] [Orc.ghost (Ghost.sel
 [0] [3]), Orc.out 0]] (loopK (Ic_toStringSLa L) (Yc_toStringSLa L) (List.length L - k)) = (List.length (List.map strC L) ≤ 9223372036854775807 → (decide ((↑k : Int) <
 (↑(List.length (List.map strC L)) : Int)) = true → (0 ≤ (↑k : Int) ∧ (List.map strC L)[Int.toNat (↑k : Int)]? = some [cS (List.getD L k default)]) ∧ (0 ≤ (↑k : Int) ∧ Int.toNat
 (↑k : Int) < List.length (List.map strC (fillTo L k))) ∧ (List.map strC (fillTo L k))[Int.toNat (↑k : Int)]? = some [cS (List.getD (fillTo L k) (Int.toNat (↑k : Int)) default)] ∧
 rng IntKind.i64 ((↑k : Int) + 1) ∧ List.length L - (k + 1) < List.length L - k ∧ Tc_toStringSLa L (li ((↑k : Int) + 1)) (Ob.arr true 1 (List.set (List.map strC (fillTo L k))
 (Int.toNat (↑k : Int)) [cS (List.getD L k default)])) = Lc_toStringSLa L (k + 1) ∧ Ic_toStringSLa L (List.length L - (k + 1)) (Lc_toStringSLa L (k + 1))) ∧ (decide ((↑k : Int) <
 (↑(List.length (List.map strC L)) : Int)) = false → True ∧ W0c_toStringSLa L (Ob.arr true 1 (List.map strC (fillTo L k))) = W0c_toStringSLa L (Ob.arr true 1 (List.map strC L))))
 := by kernel_rfl
theorem Sc_toStringSLa (L : List ByteArray) (h : List.length L ≤ 1048576)  : LoopSem Try.prog (loopAt Try.f55 0) (Ic_toStringSLa L) (Yc_toStringSLa L) := by
  refine LoopSem.ofHead wide fun k h => ⟨_, _, run_c_toStringSLa L k, ?_⟩
  with_reducible repeat' (first | apply And.intro | (intro; skip) | apply Hc_toStringSLa | apply Ec_toStringSLa)
  all_goals (try simp only [size_list, List.length_map, Int.toNat_natCast, rng64, obsEq_iff, List.length_append, List.length_replicate, fillTo_len, decide_eq_true_eq, decide_eq_false_iff_not, ne_eq, lb_inj, li_inj, ls_inj, mk_toArray, tx_mkS, mkS_inj, size_mkS] at *)
  all_goals (try (first | with_reducible rfl | omega | assumption | exact getC (by first | omega | (simp only [fillTo_len]; omega) | grind) rfl | exact outcomeGet (by first | omega | (simp only [fillTo_len]; omega) | grind) | exact datumGet (by first | omega | (simp only [fillTo_len]; omega) | grind) | exact coreGet (by first | omega | (simp only [fillTo_len]; omega) | grind) | exact congrArg (Ob.arr true _) (fill_step (by first | omega | (simp only [fillTo_len]; omega) | grind) (by first | rfl | exact outcomeC_eq _ | exact datumC_eq _ | exact coreC_eq _)) | exact congrArg (Ob.arr true _) (fill_init (by first | rfl | exact outcomeC_eq _ | exact datumC_eq _ | exact coreC_eq _)) | grind [fillTo_all]))
theorem run_c_toStringS (L : List ByteArray) : aexec Try.prog (Option.getD (Func.body Try.f55) Code.skip) (entry [] [ll (List.map strC L)] 22) [Orc.ghost (Ghost.sel [0] [0, 3, 4]),
 Orc.loop (List.length L - 0) (Lc_toStringSLa L 0) (Ic_toStringSLa L) [(True, AEx.exit 0, W0c_toStringSLa L (Ob.arr true 1 (List.map strC L)), [Orc.fin [0]])]] (finK Try.prog
 [ResultVar.tmp 2] [Ob.arr true 1 (List.map strC L)] (AV.sv (SV.one (AC.ref 0)))) = (List.length (List.map strC L) ≤ 9223372036854775807 → (0 ≤ (↑(List.length (List.map strC L)) :
 Int) ∧ 16 * Int.toNat (↑(List.length (List.map strC L)) : Int) ≤ 281474976710656) ∧ Tc_toStringSLa L (li 0) (Ob.arr true 1 (List.replicate (Int.toNat (↑(List.length (List.map strC
 L)) : Int)) [cS (ByteArray.mk #[])])) = Lc_toStringSLa L 0 ∧ Ic_toStringSLa L (List.length L - 0) (Lc_toStringSLa L 0) ∧ LoopSem Try.prog (loopAt Try.f55 0) (Ic_toStringSLa L)
 (Yc_toStringSLa L) ∧ (True → ObsEq [Ob.arr true 1 (List.map strC L)] [Ob.arr true 1 (List.map strC L)] ∧ AV.sv (SV.one (AC.ref 0)) = AV.sv (SV.one (AC.ref 0))) ∧ True) := by
 kernel_rfl
theorem c_toStringS (L : List ByteArray) (h : L.length ≤ 1048576)  : CallOK Try.prog 55 [] [ll (L.map strC)] [.arr true 1 (L.map strC)] (.sv (.one (.ref 0))) := by
  refine CallOK.ofRun wide (run_c_toStringS L) Try.call55 Try.func55 rfl rfl rfl ?_
  with_reducible repeat' (first | apply And.intro | (intro; skip) | apply Hc_toStringSLa | apply Ec_toStringSLa | apply Sc_toStringSLa)
  all_goals (try simp only [size_list, List.length_map, Int.toNat_natCast, rng64, obsEq_iff, List.length_append, List.length_replicate, fillTo_len, decide_eq_true_eq, decide_eq_false_iff_not, ne_eq, lb_inj, li_inj, ls_inj, mk_toArray, tx_mkS, mkS_inj, size_mkS] at *)
  all_goals (try (first | with_reducible rfl | omega | assumption | exact getC (by first | omega | (simp only [fillTo_len]; omega) | grind) rfl | exact outcomeGet (by first | omega | (simp only [fillTo_len]; omega) | grind) | exact datumGet (by first | omega | (simp only [fillTo_len]; omega) | grind) | exact coreGet (by first | omega | (simp only [fillTo_len]; omega) | grind) | exact congrArg (Ob.arr true _) (fill_step (by first | omega | (simp only [fillTo_len]; omega) | grind) (by first | rfl | exact outcomeC_eq _ | exact datumC_eq _ | exact coreC_eq _)) | exact congrArg (Ob.arr true _) (fill_init (by first | rfl | exact outcomeC_eq _ | exact datumC_eq _ | exact coreC_eq _)) | grind))


def Tc_eqStringSLa (A : List ByteArray) (B : List ByteArray) (x0 : SV) : St := St.mk (regsOf 26 [(0, AV.sv (ll (List.map strC A))), (1, AV.sv (ll (List.map strC B))), (5, AV.sv
 x0)]) [] 0 
def Lc_eqStringSLa (A : List ByteArray) (B : List ByteArray) (k : Nat) : St := Tc_eqStringSLa A B (li (↑k : Int)) 
def Ic_eqStringSLa (A : List ByteArray) (B : List ByteArray) : Nat → St → Prop := Head (Lc_eqStringSLa A B) (fun k => k ≤ List.length A ∧ List.length A ≤ 9223372036854775807 ∧
 List.length A = List.length B ∧ List.take k A = List.take k B) fun k => List.length A - k 
def W0c_eqStringSLa (A : List ByteArray) (B : List ByteArray) : St := St.mk (regsOf 26 []) [] 0 
def W1c_eqStringSLa (A : List ByteArray) (B : List ByteArray) (x0 : SV) : St := St.mk (regsOf 26 [(4, AV.sv x0)]) [] 0 
def Yc_eqStringSLa (A : List ByteArray) (B : List ByteArray) : List (Prop × AEx × St) := [(A = B, AEx.exit 0, W0c_eqStringSLa A B), (A ≠ B, AEx.ret, W1c_eqStringSLa A B (lb
 false))]
theorem Hc_eqStringSLa {A : List ByteArray} {B : List ByteArray} {k : Nat} {m : Nat} (h : (fun k => k ≤ List.length A ∧ List.length A ≤ 9223372036854775807 ∧ List.length A =
 List.length B ∧ List.take k A = List.take k B) k) (hm : (fun k => List.length A - k) k = m) : Ic_eqStringSLa A B m (Lc_eqStringSLa A B k) := hm ▸ Head.mk h
theorem Ec_eqStringSLa {A : List ByteArray} {B : List ByteArray} {k : Nat} {x0 : SV} (h0 : x0 = (li (↑k : Int))) : Tc_eqStringSLa A B x0 = Lc_eqStringSLa A B k := by (rw [h0]; rfl)
theorem run_c_eqStringSLa (A : List ByteArray) (B : List ByteArray) (k : Nat) : aexec Try.prog (loopAt Try.f56 0) (Lc_eqStringSLa A B k) [Orc.br [Orc.draw [], Orc.cells (strC
 (List.getD A k default)), Orc.cells (strC (List.getD B k default)), Orc.br [Orc.ghost (Ghost.sel [] [4]), Orc.out 1] [Orc.ghost (Ghost.sel [] [0, 1, 5]), Orc.goto (List.length A -
 (k + 1)) (Lc_eqStringSLa A B (k + 1))]] [Orc.ghost (Ghost.sel [] []), Orc.out 0]] (loopK (Ic_eqStringSLa A B) (Yc_eqStringSLa A B) (List.length A - k)) = (List.length (List.map
 strC A) ≤ 9223372036854775807 → (decide ((↑k : Int) < (↑(List.length (List.map strC A)) : Int)) = true → (0 ≤ (↑k : Int) ∧ (List.map strC A)[Int.toNat (↑k : Int)]? = some [cS
 (List.getD A k default)]) ∧ (0 ≤ (↑k : Int) ∧ (List.map strC B)[Int.toNat (↑k : Int)]? = some [cS (List.getD B k default)]) ∧ (decide (Array.toList (ByteArray.data (List.getD A k
 default)) ≠ Array.toList (ByteArray.data (List.getD B k default))) = true → A ≠ B ∧ W1c_eqStringSLa A B (lb false) = W1c_eqStringSLa A B (lb false)) ∧ (decide (Array.toList
 (ByteArray.data (List.getD A k default)) ≠ Array.toList (ByteArray.data (List.getD B k default))) = false → rng IntKind.i64 ((↑k : Int) + 1) ∧ List.length A - (k + 1) <
 List.length A - k ∧ Tc_eqStringSLa A B (li ((↑k : Int) + 1)) = Lc_eqStringSLa A B (k + 1) ∧ Ic_eqStringSLa A B (List.length A - (k + 1)) (Lc_eqStringSLa A B (k + 1)))) ∧ (decide
 ((↑k : Int) < (↑(List.length (List.map strC A)) : Int)) = false → A = B ∧ W0c_eqStringSLa A B = W0c_eqStringSLa A B)) := by kernel_rfl
theorem Sc_eqStringSLa (A : List ByteArray) (B : List ByteArray)  : LoopSem Try.prog (loopAt Try.f56 0) (Ic_eqStringSLa A B) (Yc_eqStringSLa A B) := by
  refine LoopSem.ofHead wide fun k h => ⟨_, _, run_c_eqStringSLa A B k, ?_⟩
  with_reducible repeat' (first | apply And.intro | (intro; skip) | apply Hc_eqStringSLa | apply Ec_eqStringSLa)
  all_goals (try simp only [size_list, List.length_map, Int.toNat_natCast, rng64, obsEq_iff, List.length_append, List.length_replicate, fillTo_len, decide_eq_true_eq, decide_eq_false_iff_not, ne_eq, lb_inj, li_inj, ls_inj, mk_toArray, tx_mkS, mkS_inj, size_mkS] at *)
  all_goals (try (first | with_reducible rfl | omega | assumption | exact getC (by first | omega | (simp only [fillTo_len]; omega) | grind) rfl | exact outcomeGet (by first | omega | (simp only [fillTo_len]; omega) | grind) | exact datumGet (by first | omega | (simp only [fillTo_len]; omega) | grind) | exact coreGet (by first | omega | (simp only [fillTo_len]; omega) | grind) | exact congrArg (Ob.arr true _) (fill_step (by first | omega | (simp only [fillTo_len]; omega) | grind) (by first | rfl | exact outcomeC_eq _ | exact datumC_eq _ | exact coreC_eq _)) | exact congrArg (Ob.arr true _) (fill_init (by first | rfl | exact outcomeC_eq _ | exact datumC_eq _ | exact coreC_eq _)) | grind [take_eq, bytes_ext]))
theorem run_c_eqStringS (A : List ByteArray) (B : List ByteArray) : aexec Try.prog (Option.getD (Func.body Try.f56) Code.skip) (entry [] [ll (List.map strC A), ll (List.map strC
 B)] 26) [Orc.br [Orc.fin []] [Orc.ghost (Ghost.sel [] [0, 1, 5]), Orc.loop (List.length A - 0) (Lc_eqStringSLa A B 0) (Ic_eqStringSLa A B) [(A = B, AEx.exit 0, W0c_eqStringSLa A
 B, [Orc.fin []]), (A ≠ B, AEx.ret, W1c_eqStringSLa A B (lb false), [Orc.fin []])]]] (finK Try.prog [ResultVar.tmp 4] [] (AV.sv (lb (decide (A = B))))) = (List.length (List.map
 strC A) ≤ 9223372036854775807 → List.length (List.map strC B) ≤ 9223372036854775807 → (decide ((↑(List.length (List.map strC A)) : Int) ≠ (↑(List.length (List.map strC B)) : Int))
 = true → ObsEq [] [] ∧ AV.sv (lb false) = AV.sv (lb (decide (A = B)))) ∧ (decide ((↑(List.length (List.map strC A)) : Int) ≠ (↑(List.length (List.map strC B)) : Int)) = false →
 Tc_eqStringSLa A B (li 0) = Lc_eqStringSLa A B 0 ∧ Ic_eqStringSLa A B (List.length A - 0) (Lc_eqStringSLa A B 0) ∧ LoopSem Try.prog (loopAt Try.f56 0) (Ic_eqStringSLa A B)
 (Yc_eqStringSLa A B) ∧ (A = B → ObsEq [] [] ∧ AV.sv (lb true) = AV.sv (lb (decide (A = B)))) ∧ ((A = B → False) → ObsEq [] [] ∧ AV.sv (lb false) = AV.sv (lb (decide (A = B)))) ∧
 True)) := by kernel_rfl
theorem c_eqStringS (A B : List ByteArray)  : CallOK Try.prog 56 [] [ll (A.map strC), ll (B.map strC)] [] (.sv (lb (decide (A = B)))) := by
  refine CallOK.ofRun wide (run_c_eqStringS A B) Try.call56 Try.func56 rfl rfl rfl ?_
  with_reducible repeat' (first | apply And.intro | (intro; skip) | apply Hc_eqStringSLa | apply Ec_eqStringSLa | apply Sc_eqStringSLa)
  all_goals (try simp only [size_list, List.length_map, Int.toNat_natCast, rng64, obsEq_iff, List.length_append, List.length_replicate, fillTo_len, decide_eq_true_eq, decide_eq_false_iff_not, ne_eq, lb_inj, li_inj, ls_inj, mk_toArray, tx_mkS, mkS_inj, size_mkS] at *)
  all_goals (try (first | with_reducible rfl | omega | assumption | exact getC (by first | omega | (simp only [fillTo_len]; omega) | grind) rfl | exact outcomeGet (by first | omega | (simp only [fillTo_len]; omega) | grind) | exact datumGet (by first | omega | (simp only [fillTo_len]; omega) | grind) | exact coreGet (by first | omega | (simp only [fillTo_len]; omega) | grind) | exact congrArg (Ob.arr true _) (fill_step (by first | omega | (simp only [fillTo_len]; omega) | grind) (by first | rfl | exact outcomeC_eq _ | exact datumC_eq _ | exact coreC_eq _)) | exact congrArg (Ob.arr true _) (fill_init (by first | rfl | exact outcomeC_eq _ | exact datumC_eq _ | exact coreC_eq _)) | grind))


def Tc_szDatumSLa (L : List Datum) (left : Int) (x0 : SV) (x1 : SV) : St := St.mk (regsOf 27 [(0, AV.sv (ll (List.map datumC L))), (1, AV.sv x1), (5, AV.sv x0)]) [] 0 
def Lc_szDatumSLa (L : List Datum) (left : Int) (k : Nat × Int) : St := Tc_szDatumSLa L left (li (↑(Prod.fst k) : Int)) (li (Prod.snd k)) 
def Ic_szDatumSLa (L : List Datum) (left : Int) : Nat → St → Prop := Head (Lc_szDatumSLa L left) (fun k => Prod.fst k ≤ List.length L ∧ 0 ≤ Prod.snd k ∧ Prod.snd k ≤ left ∧ sz
 (sumBy wD (List.drop (Prod.fst k) L)) (Prod.snd k) = sz (List.length L + sumBy wD L) left) fun k => List.length L - Prod.fst k 
def W0c_szDatumSLa (L : List Datum) (left : Int) (x0 : SV) : St := St.mk (regsOf 27 [(1, AV.sv x0)]) [] 0 
def W1c_szDatumSLa (L : List Datum) (left : Int) (x0 : SV) : St := St.mk (regsOf 27 [(4, AV.sv x0)]) [] 0 
def Yc_szDatumSLa (L : List Datum) (left : Int) : List (Prop × AEx × St) := [(0 ≤ sz (List.length L + sumBy wD L) left, AEx.exit 0, W0c_szDatumSLa L left (li (sz (List.length L +
 sumBy wD L) left))), (sz (List.length L + sumBy wD L) left = -1, AEx.ret, W1c_szDatumSLa L left (li (-1)))]
theorem Hc_szDatumSLa {L : List Datum} {left : Int} {k : Nat × Int} {m : Nat} (h : (fun k => Prod.fst k ≤ List.length L ∧ 0 ≤ Prod.snd k ∧ Prod.snd k ≤ left ∧ sz (sumBy wD
 (List.drop (Prod.fst k) L)) (Prod.snd k) = sz (List.length L + sumBy wD L) left) k) (hm : (fun k => List.length L - Prod.fst k) k = m) : Ic_szDatumSLa L left m (Lc_szDatumSLa L
 left k) := hm ▸ Head.mk h
theorem Ec_szDatumSLa {L : List Datum} {left : Int} {k : Nat × Int} {x0 : SV} {x1 : SV} (h0 : x0 = (li (↑(Prod.fst k) : Int))) (h1 : x1 = (li (Prod.snd k))) : Tc_szDatumSLa L left
 x0 x1 = Lc_szDatumSLa L left k := by (rw [h0, h1]; rfl)
theorem run_c_szDatumSLa (L : List Datum) (left : Int) (k : Nat × Int) : aexec Try.prog (loopAt Try.f81 0) (Lc_szDatumSLa L left k) [Orc.br [Orc.cells (datumF (List.getD L
 (Prod.fst k) default)), Orc.call [Mode.rd, Mode.rd] [] (AV.sv (li (sz (wD (List.getD L (Prod.fst k) default)) (Prod.snd k)))), Orc.br [Orc.ghost (Ghost.sel [] [4]), Orc.out 1]
 [Orc.ghost (Ghost.sel [] [0, 1, 5]), Orc.goto (List.length L - (Prod.fst k + 1)) (Lc_szDatumSLa L left (Prod.fst k + 1, sz (wD (List.getD L (Prod.fst k) default)) (Prod.snd k)))]]
 [Orc.ghost (Ghost.sel [] [1]), Orc.out 0]] (loopK (Ic_szDatumSLa L left) (Yc_szDatumSLa L left) (List.length L - Prod.fst k)) = (List.length (List.map datumC L) ≤
 9223372036854775807 → (decide ((↑(Prod.fst k) : Int) < (↑(List.length (List.map datumC L)) : Int)) = true → (0 ≤ (↑(Prod.fst k) : Int) ∧ (List.map datumC L)[Int.toNat (↑(Prod.fst
 k) : Int)]? = some (datumF (List.getD L (Prod.fst k) default))) ∧ CallOK Try.prog 59 [] [datumA (List.getD L (Prod.fst k) default), li (Prod.snd k)] [] (AV.sv (li (sz (wD
 (List.getD L (Prod.fst k) default)) (Prod.snd k)))) ∧ (decide (sz (wD (List.getD L (Prod.fst k) default)) (Prod.snd k) < 0) = true → sz (List.length L + sumBy wD L) left = -1 ∧
 W1c_szDatumSLa L left (li (-1)) = W1c_szDatumSLa L left (li (-1))) ∧ (decide (sz (wD (List.getD L (Prod.fst k) default)) (Prod.snd k) < 0) = false → rng IntKind.i64 ((↑(Prod.fst
 k) : Int) + 1) ∧ List.length L - (Prod.fst k + 1) < List.length L - Prod.fst k ∧ Tc_szDatumSLa L left (li ((↑(Prod.fst k) : Int) + 1)) (li (sz (wD (List.getD L (Prod.fst k)
 default)) (Prod.snd k))) = Lc_szDatumSLa L left (Prod.fst k + 1, sz (wD (List.getD L (Prod.fst k) default)) (Prod.snd k)) ∧ Ic_szDatumSLa L left (List.length L - (Prod.fst k + 1))
 (Lc_szDatumSLa L left (Prod.fst k + 1, sz (wD (List.getD L (Prod.fst k) default)) (Prod.snd k))))) ∧ (decide ((↑(Prod.fst k) : Int) < (↑(List.length (List.map datumC L)) : Int)) =
 false → 0 ≤ sz (List.length L + sumBy wD L) left ∧ W0c_szDatumSLa L left (li (Prod.snd k)) = W0c_szDatumSLa L left (li (sz (List.length L + sumBy wD L) left)))) := by kernel_rfl
theorem Sc_szDatumSLa (L : List Datum) (left : Int) (h0 : 0 ≤ left) (h : left ≤ 2147483647) (ih : ∀ (x : Datum), x ∈ L → ∀ (left : Int), 0 ≤ left → left ≤ 2147483647 → CallOK
 Try.prog 59 [] [datumA x, li left] [] (AV.sv (li (sz (wD x) left))))  : LoopSem Try.prog (loopAt Try.f81 0) (Ic_szDatumSLa L left) (Yc_szDatumSLa L left) := by
  refine LoopSem.ofHead wide fun k h => ⟨_, _, run_c_szDatumSLa L left k, ?_⟩
  obtain ⟨i, n⟩ := k
  simp only at *
  with_reducible repeat' (first | apply And.intro | (intro; skip) | apply Hc_szDatumSLa | apply Ec_szDatumSLa | apply ih)
  all_goals (try simp only [size_list, List.length_map, Int.toNat_natCast, rng64, obsEq_iff, List.length_append, List.length_replicate, fillTo_len, decide_eq_true_eq, decide_eq_false_iff_not, ne_eq, lb_inj, li_inj, ls_inj, mk_toArray, tx_mkS, mkS_inj, size_mkS] at *)
  all_goals (try (first | with_reducible rfl | omega | assumption | exact getC (by first | omega | (simp only [fillTo_len]; omega) | grind) rfl | exact outcomeGet (by first | omega | (simp only [fillTo_len]; omega) | grind) | exact datumGet (by first | omega | (simp only [fillTo_len]; omega) | grind) | exact coreGet (by first | omega | (simp only [fillTo_len]; omega) | grind) | exact congrArg (Ob.arr true _) (fill_step (by first | omega | (simp only [fillTo_len]; omega) | grind) (by first | rfl | exact outcomeC_eq _ | exact datumC_eq _ | exact coreC_eq _)) | exact congrArg (Ob.arr true _) (fill_init (by first | rfl | exact outcomeC_eq _ | exact datumC_eq _ | exact coreC_eq _)) | grind [drop_get, sumBy, sz, getD_mem']))
theorem run_c_szDatumS (L : List Datum) (left : Int) : aexec Try.prog (Option.getD (Func.body Try.f81) Code.skip) (entry [] [ll (List.map datumC L), li left] 27) [Orc.br [Orc.fin
 []] [Orc.ghost (Ghost.sel [] [0, 1, 5]), Orc.loop (List.length L - 0) (Lc_szDatumSLa L left (0, left - (↑(List.length L) : Int))) (Ic_szDatumSLa L left) [(0 ≤ sz (List.length L +
 sumBy wD L) left, AEx.exit 0, W0c_szDatumSLa L left (li (sz (List.length L + sumBy wD L) left)), [Orc.fin []]), (sz (List.length L + sumBy wD L) left = -1, AEx.ret, W1c_szDatumSLa
 L left (li (-1)), [Orc.fin []])]]] (finK Try.prog [ResultVar.tmp 4] [] (AV.sv (li (sz (List.length L + sumBy wD L) left)))) = (List.length (List.map datumC L) ≤
 9223372036854775807 → rng IntKind.i64 (left - (↑(List.length (List.map datumC L)) : Int)) ∧ (decide (left - (↑(List.length (List.map datumC L)) : Int) < 0) = true → ObsEq [] [] ∧
 AV.sv (li (-1)) = AV.sv (li (sz (List.length L + sumBy wD L) left))) ∧ (decide (left - (↑(List.length (List.map datumC L)) : Int) < 0) = false → Tc_szDatumSLa L left (li 0) (li
 (left - (↑(List.length (List.map datumC L)) : Int))) = Lc_szDatumSLa L left (0, left - (↑(List.length L) : Int)) ∧ Ic_szDatumSLa L left (List.length L - 0) (Lc_szDatumSLa L left
 (0, left - (↑(List.length L) : Int))) ∧ LoopSem Try.prog (loopAt Try.f81 0) (Ic_szDatumSLa L left) (Yc_szDatumSLa L left) ∧ (Int.NonNeg (sz (List.length L + sumBy wD L) left - 0)
 → ObsEq [] [] ∧ AV.sv (li (sz (List.length L + sumBy wD L) left)) = AV.sv (li (sz (List.length L + sumBy wD L) left))) ∧ (sz (List.length L + sumBy wD L) left = -1 → ObsEq [] [] ∧
 AV.sv (li (-1)) = AV.sv (li (sz (List.length L + sumBy wD L) left))) ∧ True)) := by kernel_rfl
theorem c_szDatumS (L : List Datum) (left : Int) (h0 : 0 ≤ left) (h : left ≤ 2147483647) (ih : ∀ x ∈ L, ∀ left : Int, 0 ≤ left → left ≤ 2147483647 → CallOK Try.prog 59 [] [datumA
 x, li left] [] (.sv (li (sz (wD x) left))))  : CallOK Try.prog 81 [] [ll (L.map datumC), li left] [] (.sv (li (sz (L.length + sumBy wD L) left))) := by
  refine CallOK.ofRun wide (run_c_szDatumS L left) Try.call81 Try.func81 rfl rfl rfl ?_
  with_reducible repeat' (first | apply And.intro | (intro; skip) | apply Hc_szDatumSLa | apply Ec_szDatumSLa | apply Sc_szDatumSLa)
  all_goals (try simp only [size_list, List.length_map, Int.toNat_natCast, rng64, obsEq_iff, List.length_append, List.length_replicate, fillTo_len, decide_eq_true_eq, decide_eq_false_iff_not, ne_eq, lb_inj, li_inj, ls_inj, mk_toArray, tx_mkS, mkS_inj, size_mkS] at *)
  all_goals (try (first | with_reducible rfl | omega | assumption | exact getC (by first | omega | (simp only [fillTo_len]; omega) | grind) rfl | exact outcomeGet (by first | omega | (simp only [fillTo_len]; omega) | grind) | exact datumGet (by first | omega | (simp only [fillTo_len]; omega) | grind) | exact coreGet (by first | omega | (simp only [fillTo_len]; omega) | grind) | exact congrArg (Ob.arr true _) (fill_step (by first | omega | (simp only [fillTo_len]; omega) | grind) (by first | rfl | exact outcomeC_eq _ | exact datumC_eq _ | exact coreC_eq _)) | exact congrArg (Ob.arr true _) (fill_init (by first | rfl | exact outcomeC_eq _ | exact datumC_eq _ | exact coreC_eq _)) | grind [sz]))


theorem run_c_szDatum_s (x : Datum) (left : Int) : aexec Try.prog (Option.getD (Func.body Try.f59) Code.skip) (entry [] [datumA x, li left] 19) [Orc.br [Orc.fin []] [Orc.call
 [Mode.rd, Mode.rd] [] (AV.sv (li (sz (List.length (Datum.items x) + sumBy wD (Datum.items x)) (left - (↑(List.length (Array.toList (ByteArray.data (Datum.text x)))) : Int))))),
 Orc.br [Orc.fin []] [Orc.fin []]]] (finK Try.prog [ResultVar.tmp 4] [] (AV.sv (li (sz (wD x) left)))) = (List.length (Array.toList (ByteArray.data (Datum.text x))) ≤
 9223372036854775807 → rng IntKind.i64 (left - (↑(List.length (Array.toList (ByteArray.data (Datum.text x)))) : Int)) ∧ (decide (left - (↑(List.length (Array.toList (ByteArray.data
 (Datum.text x)))) : Int) < 0) = true → ObsEq [] [] ∧ AV.sv (li (-1)) = AV.sv (li (sz (wD x) left))) ∧ (decide (left - (↑(List.length (Array.toList (ByteArray.data (Datum.text
 x)))) : Int) < 0) = false → CallOK Try.prog 81 [] [ll (List.map datumC (Datum.items x)), li (left - (↑(List.length (Array.toList (ByteArray.data (Datum.text x)))) : Int))] []
 (AV.sv (li (sz (List.length (Datum.items x) + sumBy wD (Datum.items x)) (left - (↑(List.length (Array.toList (ByteArray.data (Datum.text x)))) : Int))))) ∧ (decide (sz
 (List.length (Datum.items x) + sumBy wD (Datum.items x)) (left - (↑(List.length (Array.toList (ByteArray.data (Datum.text x)))) : Int)) < 0) = true → ObsEq [] [] ∧ AV.sv (li (-1))
 = AV.sv (li (sz (wD x) left))) ∧ (decide (sz (List.length (Datum.items x) + sumBy wD (Datum.items x)) (left - (↑(List.length (Array.toList (ByteArray.data (Datum.text x)))) :
 Int)) < 0) = false → ObsEq [] [] ∧ AV.sv (li (sz (List.length (Datum.items x) + sumBy wD (Datum.items x)) (left - (↑(List.length (Array.toList (ByteArray.data (Datum.text x)))) :
 Int)))) = AV.sv (li (sz (wD x) left))))) := by kernel_rfl
theorem c_szDatum_s (x : Datum) (left : Int) (h0 : 0 ≤ left) (h : left ≤ 2147483647) (ih : ∀ z ∈ x.items, ∀ left : Int, 0 ≤ left → left ≤ 2147483647 → CallOK Try.prog 59 [] [datumA
 z, li left] [] (.sv (li (sz (wD z) left))))  : CallOK Try.prog 59 [] [datumA x, li left] [] (.sv (li (sz (wD x) left))) := by
  refine CallOK.ofRun wide (run_c_szDatum_s x left) Try.call59 Try.func59 rfl rfl rfl ?_
  with_reducible repeat' (first | apply And.intro | (intro; skip) | apply c_szDatumS | apply ih)
  all_goals (try simp only [size_list, List.length_map, Int.toNat_natCast, rng64, obsEq_iff, List.length_append, List.length_replicate, fillTo_len, decide_eq_true_eq, decide_eq_false_iff_not, ne_eq, lb_inj, li_inj, ls_inj, mk_toArray, tx_mkS, mkS_inj, size_mkS] at *)
  all_goals (try (first | with_reducible rfl | omega | assumption | exact getC (by first | omega | (simp only [fillTo_len]; omega) | grind) rfl | exact outcomeGet (by first | omega | (simp only [fillTo_len]; omega) | grind) | exact datumGet (by first | omega | (simp only [fillTo_len]; omega) | grind) | exact coreGet (by first | omega | (simp only [fillTo_len]; omega) | grind) | exact congrArg (Ob.arr true _) (fill_step (by first | omega | (simp only [fillTo_len]; omega) | grind) (by first | rfl | exact outcomeC_eq _ | exact datumC_eq _ | exact coreC_eq _)) | exact congrArg (Ob.arr true _) (fill_init (by first | rfl | exact outcomeC_eq _ | exact datumC_eq _ | exact coreC_eq _)) | grind [wD_eq, sz]))


theorem c_szDatum (x : Datum) : ∀ left : Int, 0 ≤ left → left ≤ 2147483647 → CallOK Try.prog 59 [] [datumA x, li left] [] (.sv (li (sz (wD x) left))) := Datum.ind (fun x ih left h0 h => c_szDatum_s x left h0 h ih) x

def Tc_toDatumSLa (L : List Datum) (x0 : SV) (x1 : Ob) : St := St.mk (regsOf 23 [(0, AV.sv (ll (List.map datumC L))), (3, AV.sv (SV.one (AC.ref 0))), (4, AV.sv x0)]) [x1] 0 
def Lc_toDatumSLa (L : List Datum) (k : Nat) : St := Tc_toDatumSLa L (li (↑k : Int)) (Ob.arr true 4 (List.map datumC (fillTo L k))) 
def Ic_toDatumSLa (L : List Datum) : Nat → St → Prop := Head (Lc_toDatumSLa L) (fun k => k ≤ List.length L) fun k => List.length L - k 
def W0c_toDatumSLa (L : List Datum) (x0 : Ob) : St := St.mk (regsOf 23 [(3, AV.sv (SV.one (AC.ref 0)))]) [x0] 0 
def Yc_toDatumSLa (L : List Datum) : List (Prop × AEx × St) := [(True, AEx.exit 0, W0c_toDatumSLa L (Ob.arr true 4 (List.map datumC L)))]
theorem Hc_toDatumSLa {L : List Datum} {k : Nat} {m : Nat} (h : (fun k => k ≤ List.length L) k) (hm : (fun k => List.length L - k) k = m) : Ic_toDatumSLa L m (Lc_toDatumSLa L k) :=
 hm ▸ Head.mk h
theorem Ec_toDatumSLa {L : List Datum} {k : Nat} {x0 : SV} {x1 : Ob} (h0 : x0 = (li (↑k : Int))) (h1 : x1 = (Ob.arr true 4 (List.map datumC (fillTo L k)))) : Tc_toDatumSLa L x0 x1
 = Lc_toDatumSLa L k := by (rw [h0, h1]; rfl)
theorem run_c_toDatumSLa (L : List Datum) (k : Nat) : aexec Try.prog (loopAt Try.f82 0) (Lc_toDatumSLa L k) [Orc.br [Orc.cells (datumF (List.getD L k default)), Orc.call [Mode.rd]
 [Ob.arr true 4 (List.map datumC (Datum.items (List.getD L k default)))] (AV.sv (SV.agg [vI (Datum.kind (List.getD L k default)), vI (Datum.number (List.getD L k default)), vS
 (Datum.text (List.getD L k default)), AC.ref 0])), Orc.cells (datumF (List.getD (fillTo L k) (Int.toNat (↑k : Int)) default)), Orc.ghost (Ghost.sel [0] [0, 3, 4]), Orc.goto
 (List.length L - (k + 1)) (Lc_toDatumSLa L (k + 1))] [Orc.ghost (Ghost.sel [0] [3]), Orc.out 0]] (loopK (Ic_toDatumSLa L) (Yc_toDatumSLa L) (List.length L - k)) = (List.length
 (List.map datumC L) ≤ 9223372036854775807 → (decide ((↑k : Int) < (↑(List.length (List.map datumC L)) : Int)) = true → (0 ≤ (↑k : Int) ∧ (List.map datumC L)[Int.toNat (↑k : Int)]?
 = some (datumF (List.getD L k default))) ∧ CallOK Try.prog 62 [] [datumA (List.getD L k default)] [Ob.arr true 4 (List.map datumC (Datum.items (List.getD L k default)))] (AV.sv
 (SV.agg [vI (Datum.kind (List.getD L k default)), vI (Datum.number (List.getD L k default)), vS (Datum.text (List.getD L k default)), AC.ref 0])) ∧ (0 ≤ (↑k : Int) ∧ Int.toNat (↑k
 : Int) < List.length (List.map datumC (fillTo L k))) ∧ (List.map datumC (fillTo L k))[Int.toNat (↑k : Int)]? = some (datumF (List.getD (fillTo L k) (Int.toNat (↑k : Int))
 default)) ∧ rng IntKind.i64 ((↑k : Int) + 1) ∧ List.length L - (k + 1) < List.length L - k ∧ Tc_toDatumSLa L (li ((↑k : Int) + 1)) (Ob.arr true 4 (List.set (List.map datumC
 (fillTo L k)) (Int.toNat (↑k : Int)) (datumF (List.getD L k default)))) = Lc_toDatumSLa L (k + 1) ∧ Ic_toDatumSLa L (List.length L - (k + 1)) (Lc_toDatumSLa L (k + 1))) ∧ (decide
 ((↑k : Int) < (↑(List.length (List.map datumC L)) : Int)) = false → True ∧ W0c_toDatumSLa L (Ob.arr true 4 (List.map datumC (fillTo L k))) = W0c_toDatumSLa L (Ob.arr true 4
 (List.map datumC L)))) := by kernel_rfl
theorem Sc_toDatumSLa (L : List Datum) (h : List.length L + sumBy wD L ≤ 1048576) (ih : ∀ (x : Datum), x ∈ L → wD x ≤ 1048576 → CallOK Try.prog 62 [] [datumA x] [Ob.arr true 4
 (List.map datumC (Datum.items x))] (AV.sv (SV.agg [vI (Datum.kind x), vI (Datum.number x), vS (Datum.text x), AC.ref 0])))  : LoopSem Try.prog (loopAt Try.f82 0) (Ic_toDatumSLa L)
 (Yc_toDatumSLa L) := by
  refine LoopSem.ofHead wide fun k h => ⟨_, _, run_c_toDatumSLa L k, ?_⟩
  with_reducible repeat' (first | apply And.intro | (intro; skip) | apply Hc_toDatumSLa | apply Ec_toDatumSLa | apply ih)
  all_goals (try simp only [size_list, List.length_map, Int.toNat_natCast, rng64, obsEq_iff, List.length_append, List.length_replicate, fillTo_len, decide_eq_true_eq, decide_eq_false_iff_not, ne_eq, lb_inj, li_inj, ls_inj, mk_toArray, tx_mkS, mkS_inj, size_mkS] at *)
  all_goals (try (first | with_reducible rfl | omega | assumption | exact getC (by first | omega | (simp only [fillTo_len]; omega) | grind) rfl | exact outcomeGet (by first | omega | (simp only [fillTo_len]; omega) | grind) | exact datumGet (by first | omega | (simp only [fillTo_len]; omega) | grind) | exact coreGet (by first | omega | (simp only [fillTo_len]; omega) | grind) | exact congrArg (Ob.arr true _) (fill_step (by first | omega | (simp only [fillTo_len]; omega) | grind) (by first | rfl | exact outcomeC_eq _ | exact datumC_eq _ | exact coreC_eq _)) | exact congrArg (Ob.arr true _) (fill_init (by first | rfl | exact outcomeC_eq _ | exact datumC_eq _ | exact coreC_eq _)) | grind [fillTo_all, getD_mem', sumBy_mem]))
theorem run_c_toDatumS (L : List Datum) : aexec Try.prog (Option.getD (Func.body Try.f82) Code.skip) (entry [] [ll (List.map datumC L)] 23) [Orc.ghost (Ghost.sel [0] [0, 3, 4]),
 Orc.loop (List.length L - 0) (Lc_toDatumSLa L 0) (Ic_toDatumSLa L) [(True, AEx.exit 0, W0c_toDatumSLa L (Ob.arr true 4 (List.map datumC L)), [Orc.fin [0]])]] (finK Try.prog
 [ResultVar.tmp 2] [Ob.arr true 4 (List.map datumC L)] (AV.sv (SV.one (AC.ref 0)))) = (List.length (List.map datumC L) ≤ 9223372036854775807 → (0 ≤ (↑(List.length (List.map datumC
 L)) : Int) ∧ 56 * Int.toNat (↑(List.length (List.map datumC L)) : Int) ≤ 281474976710656) ∧ Tc_toDatumSLa L (li 0) (Ob.arr true 4 (List.replicate (Int.toNat (↑(List.length
 (List.map datumC L)) : Int)) [cI 0, cI 0, cS (ByteArray.mk #[]), Cell.list []])) = Lc_toDatumSLa L 0 ∧ Ic_toDatumSLa L (List.length L - 0) (Lc_toDatumSLa L 0) ∧ LoopSem Try.prog
 (loopAt Try.f82 0) (Ic_toDatumSLa L) (Yc_toDatumSLa L) ∧ (True → ObsEq [Ob.arr true 4 (List.map datumC L)] [Ob.arr true 4 (List.map datumC L)] ∧ AV.sv (SV.one (AC.ref 0)) = AV.sv
 (SV.one (AC.ref 0))) ∧ True) := by kernel_rfl
theorem c_toDatumS (L : List Datum) (h : L.length + sumBy wD L ≤ 1048576) (ih : ∀ x ∈ L, wD x ≤ 1048576 → CallOK Try.prog 62 [] [datumA x] [.arr true 4 (x.items.map datumC)] (.sv
 (.agg [vI x.kind, vI x.number, vS x.text, .ref 0])))  : CallOK Try.prog 82 [] [ll (L.map datumC)] [.arr true 4 (L.map datumC)] (.sv (.one (.ref 0))) := by
  refine CallOK.ofRun wide (run_c_toDatumS L) Try.call82 Try.func82 rfl rfl rfl ?_
  with_reducible repeat' (first | apply And.intro | (intro; skip) | apply Hc_toDatumSLa | apply Ec_toDatumSLa | apply Sc_toDatumSLa)
  all_goals (try simp only [size_list, List.length_map, Int.toNat_natCast, rng64, obsEq_iff, List.length_append, List.length_replicate, fillTo_len, decide_eq_true_eq, decide_eq_false_iff_not, ne_eq, lb_inj, li_inj, ls_inj, mk_toArray, tx_mkS, mkS_inj, size_mkS] at *)
  all_goals (try (first | with_reducible rfl | omega | assumption | exact getC (by first | omega | (simp only [fillTo_len]; omega) | grind) rfl | exact outcomeGet (by first | omega | (simp only [fillTo_len]; omega) | grind) | exact datumGet (by first | omega | (simp only [fillTo_len]; omega) | grind) | exact coreGet (by first | omega | (simp only [fillTo_len]; omega) | grind) | exact congrArg (Ob.arr true _) (fill_step (by first | omega | (simp only [fillTo_len]; omega) | grind) (by first | rfl | exact outcomeC_eq _ | exact datumC_eq _ | exact coreC_eq _)) | exact congrArg (Ob.arr true _) (fill_init (by first | rfl | exact outcomeC_eq _ | exact datumC_eq _ | exact coreC_eq _)) | grind))


theorem run_c_toDatum_s (x : Datum) : aexec Try.prog (Option.getD (Func.body Try.f62) Code.skip) (entry [] [datumA x] 18) [Orc.call [Mode.rd] [Ob.arr true 4 (List.map datumC
 (Datum.items x))] (AV.sv (SV.one (AC.ref 0))), Orc.fin [3]] (finK Try.prog [ResultVar.cell 2 48] [Ob.arr true 4 (List.map datumC (Datum.items x))] (AV.sv (SV.agg [vI (Datum.kind
 x), vI (Datum.number x), vS (Datum.text x), AC.ref 0]))) = (CallOK Try.prog 82 [] [ll (List.map datumC (Datum.items x))] [Ob.arr true 4 (List.map datumC (Datum.items x))] (AV.sv
 (SV.one (AC.ref 0))) ∧ ObsEq [Ob.arr true 4 (List.map datumC (Datum.items x))] [Ob.arr true 4 (List.map datumC (Datum.items x))] ∧ AV.sv (SV.agg [vI (Datum.kind x), vI
 (Datum.number x), vS (Datum.text x), AC.ref 0]) = AV.sv (SV.agg [vI (Datum.kind x), vI (Datum.number x), vS (Datum.text x), AC.ref 0])) := by kernel_rfl
theorem c_toDatum_s (x : Datum) (h : wD x ≤ 1048576) (ih : ∀ z ∈ x.items, wD z ≤ 1048576 → CallOK Try.prog 62 [] [datumA z] [.arr true 4 (z.items.map datumC)] (.sv (.agg [vI
 z.kind, vI z.number, vS z.text, .ref 0])))  : CallOK Try.prog 62 [] [datumA x] [.arr true 4 (x.items.map datumC)] (.sv (.agg [vI x.kind, vI x.number, vS x.text, .ref 0])) := by
  refine CallOK.ofRun wide (run_c_toDatum_s x) Try.call62 Try.func62 rfl rfl rfl ?_
  with_reducible repeat' (first | apply And.intro | (intro; skip) | apply c_toDatumS | apply ih)
  all_goals (try simp only [size_list, List.length_map, Int.toNat_natCast, rng64, obsEq_iff, List.length_append, List.length_replicate, fillTo_len, decide_eq_true_eq, decide_eq_false_iff_not, ne_eq, lb_inj, li_inj, ls_inj, mk_toArray, tx_mkS, mkS_inj, size_mkS] at *)
  all_goals (try (first | with_reducible rfl | omega | assumption | exact getC (by first | omega | (simp only [fillTo_len]; omega) | grind) rfl | exact outcomeGet (by first | omega | (simp only [fillTo_len]; omega) | grind) | exact datumGet (by first | omega | (simp only [fillTo_len]; omega) | grind) | exact coreGet (by first | omega | (simp only [fillTo_len]; omega) | grind) | exact congrArg (Ob.arr true _) (fill_step (by first | omega | (simp only [fillTo_len]; omega) | grind) (by first | rfl | exact outcomeC_eq _ | exact datumC_eq _ | exact coreC_eq _)) | exact congrArg (Ob.arr true _) (fill_init (by first | rfl | exact outcomeC_eq _ | exact datumC_eq _ | exact coreC_eq _)) | grind [wD_eq]))


theorem c_toDatum (x : Datum) : wD x ≤ 1048576 → CallOK Try.prog 62 [] [datumA x] [.arr true 4 (x.items.map datumC)] (.sv (.agg [vI x.kind, vI x.number, vS x.text, .ref 0])) := Datum.ind (fun x ih h => c_toDatum_s x h ih) x

def Tc_eqDatumSLa (A : List Datum) (B : List Datum) (x0 : SV) : St := St.mk (regsOf 27 [(0, AV.sv (ll (List.map datumC A))), (1, AV.sv (ll (List.map datumC B))), (5, AV.sv x0)]) []
 0 
def Lc_eqDatumSLa (A : List Datum) (B : List Datum) (k : Nat) : St := Tc_eqDatumSLa A B (li (↑k : Int)) 
def Ic_eqDatumSLa (A : List Datum) (B : List Datum) : Nat → St → Prop := Head (Lc_eqDatumSLa A B) (fun k => k ≤ List.length A ∧ List.length A ≤ 9223372036854775807 ∧ List.length A
 = List.length B ∧ List.take k A = List.take k B) fun k => List.length A - k 
def W0c_eqDatumSLa (A : List Datum) (B : List Datum) : St := St.mk (regsOf 27 []) [] 0 
def W1c_eqDatumSLa (A : List Datum) (B : List Datum) (x0 : SV) : St := St.mk (regsOf 27 [(4, AV.sv x0)]) [] 0 
def Yc_eqDatumSLa (A : List Datum) (B : List Datum) : List (Prop × AEx × St) := [(A = B, AEx.exit 0, W0c_eqDatumSLa A B), (A ≠ B, AEx.ret, W1c_eqDatumSLa A B (lb false))]
theorem Hc_eqDatumSLa {A : List Datum} {B : List Datum} {k : Nat} {m : Nat} (h : (fun k => k ≤ List.length A ∧ List.length A ≤ 9223372036854775807 ∧ List.length A = List.length B ∧
 List.take k A = List.take k B) k) (hm : (fun k => List.length A - k) k = m) : Ic_eqDatumSLa A B m (Lc_eqDatumSLa A B k) := hm ▸ Head.mk h
theorem Ec_eqDatumSLa {A : List Datum} {B : List Datum} {k : Nat} {x0 : SV} (h0 : x0 = (li (↑k : Int))) : Tc_eqDatumSLa A B x0 = Lc_eqDatumSLa A B k := by (rw [h0]; rfl)
theorem run_c_eqDatumSLa (A : List Datum) (B : List Datum) (k : Nat) : aexec Try.prog (loopAt Try.f83 0) (Lc_eqDatumSLa A B k) [Orc.br [Orc.draw [], Orc.cells (datumF (List.getD A
 k default)), Orc.cells (datumF (List.getD B k default)), Orc.call [Mode.rd, Mode.rd] [] (AV.sv (lb (decide (List.getD A k default = List.getD B k default)))), Orc.br [Orc.ghost
 (Ghost.sel [] [4]), Orc.out 1] [Orc.ghost (Ghost.sel [] [0, 1, 5]), Orc.goto (List.length A - (k + 1)) (Lc_eqDatumSLa A B (k + 1))]] [Orc.ghost (Ghost.sel [] []), Orc.out 0]]
 (loopK (Ic_eqDatumSLa A B) (Yc_eqDatumSLa A B) (List.length A - k)) = (List.length (List.map datumC A) ≤ 9223372036854775807 → (decide ((↑k : Int) < (↑(List.length (List.map
 datumC A)) : Int)) = true → (0 ≤ (↑k : Int) ∧ (List.map datumC A)[Int.toNat (↑k : Int)]? = some (datumF (List.getD A k default))) ∧ (0 ≤ (↑k : Int) ∧ (List.map datumC B)[Int.toNat
 (↑k : Int)]? = some (datumF (List.getD B k default))) ∧ CallOK Try.prog 64 [] [datumA (List.getD A k default), datumA (List.getD B k default)] [] (AV.sv (lb (decide (List.getD A k
 default = List.getD B k default)))) ∧ ((!decide (List.getD A k default = List.getD B k default)) = true → A ≠ B ∧ W1c_eqDatumSLa A B (lb false) = W1c_eqDatumSLa A B (lb false)) ∧
 ((!decide (List.getD A k default = List.getD B k default)) = false → rng IntKind.i64 ((↑k : Int) + 1) ∧ List.length A - (k + 1) < List.length A - k ∧ Tc_eqDatumSLa A B (li ((↑k :
 Int) + 1)) = Lc_eqDatumSLa A B (k + 1) ∧ Ic_eqDatumSLa A B (List.length A - (k + 1)) (Lc_eqDatumSLa A B (k + 1)))) ∧ (decide ((↑k : Int) < (↑(List.length (List.map datumC A)) :
 Int)) = false → A = B ∧ W0c_eqDatumSLa A B = W0c_eqDatumSLa A B)) := by kernel_rfl
theorem Sc_eqDatumSLa (A : List Datum) (B : List Datum) (ih : ∀ (x : Datum), x ∈ A → ∀ (y : Datum), CallOK Try.prog 64 [] [datumA x, datumA y] [] (AV.sv (lb (decide (x = y)))))  :
 LoopSem Try.prog (loopAt Try.f83 0) (Ic_eqDatumSLa A B) (Yc_eqDatumSLa A B) := by
  refine LoopSem.ofHead wide fun k h => ⟨_, _, run_c_eqDatumSLa A B k, ?_⟩
  with_reducible repeat' (first | apply And.intro | (intro; skip) | apply Hc_eqDatumSLa | apply Ec_eqDatumSLa | apply ih)
  all_goals (try simp only [size_list, List.length_map, Int.toNat_natCast, rng64, obsEq_iff, List.length_append, List.length_replicate, fillTo_len, decide_eq_true_eq, decide_eq_false_iff_not, ne_eq, lb_inj, li_inj, ls_inj, mk_toArray, tx_mkS, mkS_inj, size_mkS] at *)
  all_goals (try (first | with_reducible rfl | omega | assumption | exact getC (by first | omega | (simp only [fillTo_len]; omega) | grind) rfl | exact outcomeGet (by first | omega | (simp only [fillTo_len]; omega) | grind) | exact datumGet (by first | omega | (simp only [fillTo_len]; omega) | grind) | exact coreGet (by first | omega | (simp only [fillTo_len]; omega) | grind) | exact congrArg (Ob.arr true _) (fill_step (by first | omega | (simp only [fillTo_len]; omega) | grind) (by first | rfl | exact outcomeC_eq _ | exact datumC_eq _ | exact coreC_eq _)) | exact congrArg (Ob.arr true _) (fill_init (by first | rfl | exact outcomeC_eq _ | exact datumC_eq _ | exact coreC_eq _)) | grind [take_eq, getD_mem']))
theorem run_c_eqDatumS (A : List Datum) (B : List Datum) : aexec Try.prog (Option.getD (Func.body Try.f83) Code.skip) (entry [] [ll (List.map datumC A), ll (List.map datumC B)] 27)
 [Orc.br [Orc.fin []] [Orc.ghost (Ghost.sel [] [0, 1, 5]), Orc.loop (List.length A - 0) (Lc_eqDatumSLa A B 0) (Ic_eqDatumSLa A B) [(A = B, AEx.exit 0, W0c_eqDatumSLa A B, [Orc.fin
 []]), (A ≠ B, AEx.ret, W1c_eqDatumSLa A B (lb false), [Orc.fin []])]]] (finK Try.prog [ResultVar.tmp 4] [] (AV.sv (lb (decide (A = B))))) = (List.length (List.map datumC A) ≤
 9223372036854775807 → List.length (List.map datumC B) ≤ 9223372036854775807 → (decide ((↑(List.length (List.map datumC A)) : Int) ≠ (↑(List.length (List.map datumC B)) : Int)) =
 true → ObsEq [] [] ∧ AV.sv (lb false) = AV.sv (lb (decide (A = B)))) ∧ (decide ((↑(List.length (List.map datumC A)) : Int) ≠ (↑(List.length (List.map datumC B)) : Int)) = false →
 Tc_eqDatumSLa A B (li 0) = Lc_eqDatumSLa A B 0 ∧ Ic_eqDatumSLa A B (List.length A - 0) (Lc_eqDatumSLa A B 0) ∧ LoopSem Try.prog (loopAt Try.f83 0) (Ic_eqDatumSLa A B)
 (Yc_eqDatumSLa A B) ∧ (A = B → ObsEq [] [] ∧ AV.sv (lb true) = AV.sv (lb (decide (A = B)))) ∧ ((A = B → False) → ObsEq [] [] ∧ AV.sv (lb false) = AV.sv (lb (decide (A = B)))) ∧
 True)) := by kernel_rfl
theorem c_eqDatumS (A B : List Datum) (ih : ∀ x ∈ A, ∀ y : Datum, CallOK Try.prog 64 [] [datumA x, datumA y] [] (.sv (lb (decide (x = y)))))  : CallOK Try.prog 83 [] [ll (A.map
 datumC), ll (B.map datumC)] [] (.sv (lb (decide (A = B)))) := by
  refine CallOK.ofRun wide (run_c_eqDatumS A B) Try.call83 Try.func83 rfl rfl rfl ?_
  with_reducible repeat' (first | apply And.intro | (intro; skip) | apply Hc_eqDatumSLa | apply Ec_eqDatumSLa | apply Sc_eqDatumSLa)
  all_goals (try simp only [size_list, List.length_map, Int.toNat_natCast, rng64, obsEq_iff, List.length_append, List.length_replicate, fillTo_len, decide_eq_true_eq, decide_eq_false_iff_not, ne_eq, lb_inj, li_inj, ls_inj, mk_toArray, tx_mkS, mkS_inj, size_mkS] at *)
  all_goals (try (first | with_reducible rfl | omega | assumption | exact getC (by first | omega | (simp only [fillTo_len]; omega) | grind) rfl | exact outcomeGet (by first | omega | (simp only [fillTo_len]; omega) | grind) | exact datumGet (by first | omega | (simp only [fillTo_len]; omega) | grind) | exact coreGet (by first | omega | (simp only [fillTo_len]; omega) | grind) | exact congrArg (Ob.arr true _) (fill_step (by first | omega | (simp only [fillTo_len]; omega) | grind) (by first | rfl | exact outcomeC_eq _ | exact datumC_eq _ | exact coreC_eq _)) | exact congrArg (Ob.arr true _) (fill_init (by first | rfl | exact outcomeC_eq _ | exact datumC_eq _ | exact coreC_eq _)) | grind))


theorem run_c_eqDatum_s (x : Datum) (y : Datum) : aexec Try.prog (Option.getD (Func.body Try.f64) Code.skip) (entry [] [datumA x, datumA y] 26) [Orc.br [Orc.fin []] [Orc.br
 [Orc.fin []] [Orc.br [Orc.fin []] [Orc.call [Mode.rd, Mode.rd] [] (AV.sv (lb (decide (Datum.items x = Datum.items y)))), Orc.br [Orc.fin []] [Orc.fin []]]]]] (finK Try.prog
 [ResultVar.tmp 4] [] (AV.sv (lb (decide (x = y))))) = ((decide (Datum.kind x ≠ Datum.kind y) = true → ObsEq [] [] ∧ AV.sv (lb false) = AV.sv (lb (decide (x = y)))) ∧ (decide
 (Datum.kind x ≠ Datum.kind y) = false → (decide (Datum.number x ≠ Datum.number y) = true → ObsEq [] [] ∧ AV.sv (lb false) = AV.sv (lb (decide (x = y)))) ∧ (decide (Datum.number x
 ≠ Datum.number y) = false → (decide (Array.toList (ByteArray.data (Datum.text x)) ≠ Array.toList (ByteArray.data (Datum.text y))) = true → ObsEq [] [] ∧ AV.sv (lb false) = AV.sv
 (lb (decide (x = y)))) ∧ (decide (Array.toList (ByteArray.data (Datum.text x)) ≠ Array.toList (ByteArray.data (Datum.text y))) = false → CallOK Try.prog 83 [] [ll (List.map datumC
 (Datum.items x)), ll (List.map datumC (Datum.items y))] [] (AV.sv (lb (decide (Datum.items x = Datum.items y)))) ∧ ((!decide (Datum.items x = Datum.items y)) = true → ObsEq [] []
 ∧ AV.sv (lb false) = AV.sv (lb (decide (x = y)))) ∧ ((!decide (Datum.items x = Datum.items y)) = false → ObsEq [] [] ∧ AV.sv (lb true) = AV.sv (lb (decide (x = y)))))))) := by
 kernel_rfl
theorem c_eqDatum_s (x y : Datum) (ih : ∀ z ∈ x.items, ∀ y : Datum, CallOK Try.prog 64 [] [datumA z, datumA y] [] (.sv (lb (decide (z = y)))))  : CallOK Try.prog 64 [] [datumA x,
 datumA y] [] (.sv (lb (decide (x = y)))) := by
  refine CallOK.ofRun wide (run_c_eqDatum_s x y) Try.call64 Try.func64 rfl rfl rfl ?_
  simp only [datumExt]
  with_reducible repeat' (first | apply And.intro | (intro; skip) | apply c_eqDatumS | apply ih)
  all_goals (try simp only [size_list, List.length_map, Int.toNat_natCast, rng64, obsEq_iff, List.length_append, List.length_replicate, fillTo_len, decide_eq_true_eq, decide_eq_false_iff_not, ne_eq, lb_inj, li_inj, ls_inj, mk_toArray, tx_mkS, mkS_inj, size_mkS] at *)
  all_goals (try (first | with_reducible rfl | omega | assumption | exact getC (by first | omega | (simp only [fillTo_len]; omega) | grind) rfl | exact outcomeGet (by first | omega | (simp only [fillTo_len]; omega) | grind) | exact datumGet (by first | omega | (simp only [fillTo_len]; omega) | grind) | exact coreGet (by first | omega | (simp only [fillTo_len]; omega) | grind) | exact congrArg (Ob.arr true _) (fill_step (by first | omega | (simp only [fillTo_len]; omega) | grind) (by first | rfl | exact outcomeC_eq _ | exact datumC_eq _ | exact coreC_eq _)) | exact congrArg (Ob.arr true _) (fill_init (by first | rfl | exact outcomeC_eq _ | exact datumC_eq _ | exact coreC_eq _)) | grind [bytes_ext]))


theorem c_eqDatum (x : Datum) : ∀ y : Datum, CallOK Try.prog 64 [] [datumA x, datumA y] [] (.sv (lb (decide (x = y)))) := Datum.ind (fun x ih y => c_eqDatum_s x y ih) x

def Tc_szCoreSLa (L : List Core) (left : Int) (x0 : SV) (x1 : SV) : St := St.mk (regsOf 27 [(0, AV.sv (ll (List.map coreC L))), (1, AV.sv x1), (5, AV.sv x0)]) [] 0 
def Lc_szCoreSLa (L : List Core) (left : Int) (k : Nat × Int) : St := Tc_szCoreSLa L left (li (↑(Prod.fst k) : Int)) (li (Prod.snd k)) 
def Ic_szCoreSLa (L : List Core) (left : Int) : Nat → St → Prop := Head (Lc_szCoreSLa L left) (fun k => Prod.fst k ≤ List.length L ∧ 0 ≤ Prod.snd k ∧ Prod.snd k ≤ left ∧ sz (sumBy
 wC (List.drop (Prod.fst k) L)) (Prod.snd k) = sz (List.length L + sumBy wC L) left) fun k => List.length L - Prod.fst k 
def W0c_szCoreSLa (L : List Core) (left : Int) (x0 : SV) : St := St.mk (regsOf 27 [(1, AV.sv x0)]) [] 0 
def W1c_szCoreSLa (L : List Core) (left : Int) (x0 : SV) : St := St.mk (regsOf 27 [(4, AV.sv x0)]) [] 0 
def Yc_szCoreSLa (L : List Core) (left : Int) : List (Prop × AEx × St) := [(0 ≤ sz (List.length L + sumBy wC L) left, AEx.exit 0, W0c_szCoreSLa L left (li (sz (List.length L +
 sumBy wC L) left))), (sz (List.length L + sumBy wC L) left = -1, AEx.ret, W1c_szCoreSLa L left (li (-1)))]
theorem Hc_szCoreSLa {L : List Core} {left : Int} {k : Nat × Int} {m : Nat} (h : (fun k => Prod.fst k ≤ List.length L ∧ 0 ≤ Prod.snd k ∧ Prod.snd k ≤ left ∧ sz (sumBy wC (List.drop
 (Prod.fst k) L)) (Prod.snd k) = sz (List.length L + sumBy wC L) left) k) (hm : (fun k => List.length L - Prod.fst k) k = m) : Ic_szCoreSLa L left m (Lc_szCoreSLa L left k) := hm ▸
 Head.mk h
theorem Ec_szCoreSLa {L : List Core} {left : Int} {k : Nat × Int} {x0 : SV} {x1 : SV} (h0 : x0 = (li (↑(Prod.fst k) : Int))) (h1 : x1 = (li (Prod.snd k))) : Tc_szCoreSLa L left x0
 x1 = Lc_szCoreSLa L left k := by (rw [h0, h1]; rfl)
theorem run_c_szCoreSLa (L : List Core) (left : Int) (k : Nat × Int) : aexec Try.prog (loopAt Try.f60 0) (Lc_szCoreSLa L left k) [Orc.br [Orc.cells (coreF (List.getD L (Prod.fst k)
 default)), Orc.call [Mode.rd, Mode.rd] [] (AV.sv (li (sz (wC (List.getD L (Prod.fst k) default)) (Prod.snd k)))), Orc.br [Orc.ghost (Ghost.sel [] [4]), Orc.out 1] [Orc.ghost
 (Ghost.sel [] [0, 1, 5]), Orc.goto (List.length L - (Prod.fst k + 1)) (Lc_szCoreSLa L left (Prod.fst k + 1, sz (wC (List.getD L (Prod.fst k) default)) (Prod.snd k)))]] [Orc.ghost
 (Ghost.sel [] [1]), Orc.out 0]] (loopK (Ic_szCoreSLa L left) (Yc_szCoreSLa L left) (List.length L - Prod.fst k)) = (List.length (List.map coreC L) ≤ 9223372036854775807 → (decide
 ((↑(Prod.fst k) : Int) < (↑(List.length (List.map coreC L)) : Int)) = true → (0 ≤ (↑(Prod.fst k) : Int) ∧ (List.map coreC L)[Int.toNat (↑(Prod.fst k) : Int)]? = some (coreF
 (List.getD L (Prod.fst k) default))) ∧ CallOK Try.prog 30 [] [coreA (List.getD L (Prod.fst k) default), li (Prod.snd k)] [] (AV.sv (li (sz (wC (List.getD L (Prod.fst k) default))
 (Prod.snd k)))) ∧ (decide (sz (wC (List.getD L (Prod.fst k) default)) (Prod.snd k) < 0) = true → sz (List.length L + sumBy wC L) left = -1 ∧ W1c_szCoreSLa L left (li (-1)) =
 W1c_szCoreSLa L left (li (-1))) ∧ (decide (sz (wC (List.getD L (Prod.fst k) default)) (Prod.snd k) < 0) = false → rng IntKind.i64 ((↑(Prod.fst k) : Int) + 1) ∧ List.length L -
 (Prod.fst k + 1) < List.length L - Prod.fst k ∧ Tc_szCoreSLa L left (li ((↑(Prod.fst k) : Int) + 1)) (li (sz (wC (List.getD L (Prod.fst k) default)) (Prod.snd k))) = Lc_szCoreSLa
 L left (Prod.fst k + 1, sz (wC (List.getD L (Prod.fst k) default)) (Prod.snd k)) ∧ Ic_szCoreSLa L left (List.length L - (Prod.fst k + 1)) (Lc_szCoreSLa L left (Prod.fst k + 1, sz
 (wC (List.getD L (Prod.fst k) default)) (Prod.snd k))))) ∧ (decide ((↑(Prod.fst k) : Int) < (↑(List.length (List.map coreC L)) : Int)) = false → 0 ≤ sz (List.length L + sumBy wC
 L) left ∧ W0c_szCoreSLa L left (li (Prod.snd k)) = W0c_szCoreSLa L left (li (sz (List.length L + sumBy wC L) left)))) := by kernel_rfl
theorem Sc_szCoreSLa (L : List Core) (left : Int) (h0 : 0 ≤ left) (h : left ≤ 2147483647) (ih : ∀ (x : Core), x ∈ L → ∀ (left : Int), 0 ≤ left → left ≤ 2147483647 → CallOK Try.prog
 30 [] [coreA x, li left] [] (AV.sv (li (sz (wC x) left))))  : LoopSem Try.prog (loopAt Try.f60 0) (Ic_szCoreSLa L left) (Yc_szCoreSLa L left) := by
  refine LoopSem.ofHead wide fun k h => ⟨_, _, run_c_szCoreSLa L left k, ?_⟩
  obtain ⟨i, n⟩ := k
  simp only at *
  with_reducible repeat' (first | apply And.intro | (intro; skip) | apply Hc_szCoreSLa | apply Ec_szCoreSLa | apply ih)
  all_goals (try simp only [size_list, List.length_map, Int.toNat_natCast, rng64, obsEq_iff, List.length_append, List.length_replicate, fillTo_len, decide_eq_true_eq, decide_eq_false_iff_not, ne_eq, lb_inj, li_inj, ls_inj, mk_toArray, tx_mkS, mkS_inj, size_mkS] at *)
  all_goals (try (first | with_reducible rfl | omega | assumption | exact getC (by first | omega | (simp only [fillTo_len]; omega) | grind) rfl | exact outcomeGet (by first | omega | (simp only [fillTo_len]; omega) | grind) | exact datumGet (by first | omega | (simp only [fillTo_len]; omega) | grind) | exact coreGet (by first | omega | (simp only [fillTo_len]; omega) | grind) | exact congrArg (Ob.arr true _) (fill_step (by first | omega | (simp only [fillTo_len]; omega) | grind) (by first | rfl | exact outcomeC_eq _ | exact datumC_eq _ | exact coreC_eq _)) | exact congrArg (Ob.arr true _) (fill_init (by first | rfl | exact outcomeC_eq _ | exact datumC_eq _ | exact coreC_eq _)) | grind [drop_get, sumBy, sz, getD_mem']))
theorem run_c_szCoreS (L : List Core) (left : Int) : aexec Try.prog (Option.getD (Func.body Try.f60) Code.skip) (entry [] [ll (List.map coreC L), li left] 27) [Orc.br [Orc.fin []]
 [Orc.ghost (Ghost.sel [] [0, 1, 5]), Orc.loop (List.length L - 0) (Lc_szCoreSLa L left (0, left - (↑(List.length L) : Int))) (Ic_szCoreSLa L left) [(0 ≤ sz (List.length L + sumBy
 wC L) left, AEx.exit 0, W0c_szCoreSLa L left (li (sz (List.length L + sumBy wC L) left)), [Orc.fin []]), (sz (List.length L + sumBy wC L) left = -1, AEx.ret, W1c_szCoreSLa L left
 (li (-1)), [Orc.fin []])]]] (finK Try.prog [ResultVar.tmp 4] [] (AV.sv (li (sz (List.length L + sumBy wC L) left)))) = (List.length (List.map coreC L) ≤ 9223372036854775807 → rng
 IntKind.i64 (left - (↑(List.length (List.map coreC L)) : Int)) ∧ (decide (left - (↑(List.length (List.map coreC L)) : Int) < 0) = true → ObsEq [] [] ∧ AV.sv (li (-1)) = AV.sv (li
 (sz (List.length L + sumBy wC L) left))) ∧ (decide (left - (↑(List.length (List.map coreC L)) : Int) < 0) = false → Tc_szCoreSLa L left (li 0) (li (left - (↑(List.length (List.map
 coreC L)) : Int))) = Lc_szCoreSLa L left (0, left - (↑(List.length L) : Int)) ∧ Ic_szCoreSLa L left (List.length L - 0) (Lc_szCoreSLa L left (0, left - (↑(List.length L) : Int)))
 ∧ LoopSem Try.prog (loopAt Try.f60 0) (Ic_szCoreSLa L left) (Yc_szCoreSLa L left) ∧ (Int.NonNeg (sz (List.length L + sumBy wC L) left - 0) → ObsEq [] [] ∧ AV.sv (li (sz
 (List.length L + sumBy wC L) left)) = AV.sv (li (sz (List.length L + sumBy wC L) left))) ∧ (sz (List.length L + sumBy wC L) left = -1 → ObsEq [] [] ∧ AV.sv (li (-1)) = AV.sv (li
 (sz (List.length L + sumBy wC L) left))) ∧ True)) := by kernel_rfl
theorem c_szCoreS (L : List Core) (left : Int) (h0 : 0 ≤ left) (h : left ≤ 2147483647) (ih : ∀ x ∈ L, ∀ left : Int, 0 ≤ left → left ≤ 2147483647 → CallOK Try.prog 30 [] [coreA x,
 li left] [] (.sv (li (sz (wC x) left))))  : CallOK Try.prog 60 [] [ll (L.map coreC), li left] [] (.sv (li (sz (L.length + sumBy wC L) left))) := by
  refine CallOK.ofRun wide (run_c_szCoreS L left) Try.call60 Try.func60 rfl rfl rfl ?_
  with_reducible repeat' (first | apply And.intro | (intro; skip) | apply Hc_szCoreSLa | apply Ec_szCoreSLa | apply Sc_szCoreSLa)
  all_goals (try simp only [size_list, List.length_map, Int.toNat_natCast, rng64, obsEq_iff, List.length_append, List.length_replicate, fillTo_len, decide_eq_true_eq, decide_eq_false_iff_not, ne_eq, lb_inj, li_inj, ls_inj, mk_toArray, tx_mkS, mkS_inj, size_mkS] at *)
  all_goals (try (first | with_reducible rfl | omega | assumption | exact getC (by first | omega | (simp only [fillTo_len]; omega) | grind) rfl | exact outcomeGet (by first | omega | (simp only [fillTo_len]; omega) | grind) | exact datumGet (by first | omega | (simp only [fillTo_len]; omega) | grind) | exact coreGet (by first | omega | (simp only [fillTo_len]; omega) | grind) | exact congrArg (Ob.arr true _) (fill_step (by first | omega | (simp only [fillTo_len]; omega) | grind) (by first | rfl | exact outcomeC_eq _ | exact datumC_eq _ | exact coreC_eq _)) | exact congrArg (Ob.arr true _) (fill_init (by first | rfl | exact outcomeC_eq _ | exact datumC_eq _ | exact coreC_eq _)) | grind [sz]))


theorem run_c_szCore_s (x : Core) (left : Int) : aexec Try.prog (Option.getD (Func.body Try.f30) Code.skip) (entry [] [coreA x, li left] 24) [Orc.call [Mode.rd, Mode.rd] [] (AV.sv
 (li (sz (List.length (Core.params x)) left))), Orc.br [Orc.fin []] [Orc.call [Mode.rd, Mode.rd] [] (AV.sv (li (sz (wD (Core.datum x)) (sz (List.length (Core.params x)) left)))),
 Orc.br [Orc.fin []] [Orc.call [Mode.rd, Mode.rd] [] (AV.sv (li (sz (List.length (Core.kids x) + sumBy wC (Core.kids x)) (sz (wD (Core.datum x)) (sz (List.length (Core.params x))
 left))))), Orc.br [Orc.fin []] [Orc.fin []]]]] (finK Try.prog [ResultVar.tmp 4] [] (AV.sv (li (sz (wC x) left)))) = (CallOK Try.prog 58 [] [ll (List.map intC (Core.params x)), li
 left] [] (AV.sv (li (sz (List.length (Core.params x)) left))) ∧ (decide (sz (List.length (Core.params x)) left < 0) = true → ObsEq [] [] ∧ AV.sv (li (-1)) = AV.sv (li (sz (wC x)
 left))) ∧ (decide (sz (List.length (Core.params x)) left < 0) = false → CallOK Try.prog 59 [] [datumA (Core.datum x), li (sz (List.length (Core.params x)) left)] [] (AV.sv (li (sz
 (wD (Core.datum x)) (sz (List.length (Core.params x)) left)))) ∧ (decide (sz (wD (Core.datum x)) (sz (List.length (Core.params x)) left) < 0) = true → ObsEq [] [] ∧ AV.sv (li
 (-1)) = AV.sv (li (sz (wC x) left))) ∧ (decide (sz (wD (Core.datum x)) (sz (List.length (Core.params x)) left) < 0) = false → CallOK Try.prog 60 [] [ll (List.map coreC (Core.kids
 x)), li (sz (wD (Core.datum x)) (sz (List.length (Core.params x)) left))] [] (AV.sv (li (sz (List.length (Core.kids x) + sumBy wC (Core.kids x)) (sz (wD (Core.datum x)) (sz
 (List.length (Core.params x)) left))))) ∧ (decide (sz (List.length (Core.kids x) + sumBy wC (Core.kids x)) (sz (wD (Core.datum x)) (sz (List.length (Core.params x)) left)) < 0) =
 true → ObsEq [] [] ∧ AV.sv (li (-1)) = AV.sv (li (sz (wC x) left))) ∧ (decide (sz (List.length (Core.kids x) + sumBy wC (Core.kids x)) (sz (wD (Core.datum x)) (sz (List.length
 (Core.params x)) left)) < 0) = false → ObsEq [] [] ∧ AV.sv (li (sz (List.length (Core.kids x) + sumBy wC (Core.kids x)) (sz (wD (Core.datum x)) (sz (List.length (Core.params x))
 left)))) = AV.sv (li (sz (wC x) left)))))) := by kernel_rfl
theorem c_szCore_s (x : Core) (left : Int) (h0 : 0 ≤ left) (h : left ≤ 2147483647) (ih : ∀ z ∈ x.kids, ∀ left : Int, 0 ≤ left → left ≤ 2147483647 → CallOK Try.prog 30 [] [coreA z,
 li left] [] (.sv (li (sz (wC z) left))))  : CallOK Try.prog 30 [] [coreA x, li left] [] (.sv (li (sz (wC x) left))) := by
  refine CallOK.ofRun wide (run_c_szCore_s x left) Try.call30 Try.func30 rfl rfl rfl ?_
  with_reducible repeat' (first | apply And.intro | (intro; skip) | apply c_szIntS | apply c_szDatum | apply c_szCoreS | apply ih)
  all_goals (try simp only [size_list, List.length_map, Int.toNat_natCast, rng64, obsEq_iff, List.length_append, List.length_replicate, fillTo_len, decide_eq_true_eq, decide_eq_false_iff_not, ne_eq, lb_inj, li_inj, ls_inj, mk_toArray, tx_mkS, mkS_inj, size_mkS] at *)
  all_goals (try (first | with_reducible rfl | omega | assumption | exact getC (by first | omega | (simp only [fillTo_len]; omega) | grind) rfl | exact outcomeGet (by first | omega | (simp only [fillTo_len]; omega) | grind) | exact datumGet (by first | omega | (simp only [fillTo_len]; omega) | grind) | exact coreGet (by first | omega | (simp only [fillTo_len]; omega) | grind) | exact congrArg (Ob.arr true _) (fill_step (by first | omega | (simp only [fillTo_len]; omega) | grind) (by first | rfl | exact outcomeC_eq _ | exact datumC_eq _ | exact coreC_eq _)) | exact congrArg (Ob.arr true _) (fill_init (by first | rfl | exact outcomeC_eq _ | exact datumC_eq _ | exact coreC_eq _)) | grind [wC_eq, sz]))


theorem c_szCore (x : Core) : ∀ left : Int, 0 ≤ left → left ≤ 2147483647 → CallOK Try.prog 30 [] [coreA x, li left] [] (.sv (li (sz (wC x) left))) := Core.ind (fun x ih left h0 h => c_szCore_s x left h0 h ih) x

def Tc_toCoreSLa (L : List Core) (x0 : SV) (x1 : Ob) : St := St.mk (regsOf 23 [(0, AV.sv (ll (List.map coreC L))), (3, AV.sv (SV.one (AC.ref 0))), (4, AV.sv x0)]) [x1] 0 
def Lc_toCoreSLa (L : List Core) (k : Nat) : St := Tc_toCoreSLa L (li (↑k : Int)) (Ob.arr true 8 (List.map coreC (fillTo L k))) 
def Ic_toCoreSLa (L : List Core) : Nat → St → Prop := Head (Lc_toCoreSLa L) (fun k => k ≤ List.length L) fun k => List.length L - k 
def W0c_toCoreSLa (L : List Core) (x0 : Ob) : St := St.mk (regsOf 23 [(3, AV.sv (SV.one (AC.ref 0)))]) [x0] 0 
def Yc_toCoreSLa (L : List Core) : List (Prop × AEx × St) := [(True, AEx.exit 0, W0c_toCoreSLa L (Ob.arr true 8 (List.map coreC L)))]
theorem Hc_toCoreSLa {L : List Core} {k : Nat} {m : Nat} (h : (fun k => k ≤ List.length L) k) (hm : (fun k => List.length L - k) k = m) : Ic_toCoreSLa L m (Lc_toCoreSLa L k) := hm
 ▸ Head.mk h
theorem Ec_toCoreSLa {L : List Core} {k : Nat} {x0 : SV} {x1 : Ob} (h0 : x0 = (li (↑k : Int))) (h1 : x1 = (Ob.arr true 8 (List.map coreC (fillTo L k)))) : Tc_toCoreSLa L x0 x1 =
 Lc_toCoreSLa L k := by (rw [h0, h1]; rfl)
theorem run_c_toCoreSLa (L : List Core) (k : Nat) : aexec Try.prog (loopAt Try.f63 0) (Lc_toCoreSLa L k) [Orc.br [Orc.cells (coreF (List.getD L k default)), Orc.call [Mode.rd]
 [Ob.arr true 1 (List.map intC (Core.params (List.getD L k default))), Ob.arr true 4 (List.map datumC (Datum.items (Core.datum (List.getD L k default)))), Ob.arr true 8 (List.map
 coreC (Core.kids (List.getD L k default)))] (AV.sv (SV.agg [vI (Core.kind (List.getD L k default)), vI (Core.number (List.getD L k default)), AC.ref 0, vI (Datum.kind (Core.datum
 (List.getD L k default))), vI (Datum.number (Core.datum (List.getD L k default))), vS (Datum.text (Core.datum (List.getD L k default))), AC.ref 1, AC.ref 2])), Orc.cells (coreF
 (List.getD (fillTo L k) (Int.toNat (↑k : Int)) default)), Orc.ghost (Ghost.sel [0] [0, 3, 4]), Orc.goto (List.length L - (k + 1)) (Lc_toCoreSLa L (k + 1))] [Orc.ghost (Ghost.sel
 [0] [3]), Orc.out 0]] (loopK (Ic_toCoreSLa L) (Yc_toCoreSLa L) (List.length L - k)) = (List.length (List.map coreC L) ≤ 9223372036854775807 → (decide ((↑k : Int) < (↑(List.length
 (List.map coreC L)) : Int)) = true → (0 ≤ (↑k : Int) ∧ (List.map coreC L)[Int.toNat (↑k : Int)]? = some (coreF (List.getD L k default))) ∧ CallOK Try.prog 32 [] [coreA (List.getD
 L k default)] [Ob.arr true 1 (List.map intC (Core.params (List.getD L k default))), Ob.arr true 4 (List.map datumC (Datum.items (Core.datum (List.getD L k default)))), Ob.arr true
 8 (List.map coreC (Core.kids (List.getD L k default)))] (AV.sv (SV.agg [vI (Core.kind (List.getD L k default)), vI (Core.number (List.getD L k default)), AC.ref 0, vI (Datum.kind
 (Core.datum (List.getD L k default))), vI (Datum.number (Core.datum (List.getD L k default))), vS (Datum.text (Core.datum (List.getD L k default))), AC.ref 1, AC.ref 2])) ∧ (0 ≤
 (↑k : Int) ∧ Int.toNat (↑k : Int) < List.length (List.map coreC (fillTo L k))) ∧ (List.map coreC (fillTo L k))[Int.toNat (↑k : Int)]? = some (coreF (List.getD (fillTo L k)
 (Int.toNat (↑k : Int)) default)) ∧ rng IntKind.i64 ((↑k : Int) + 1) ∧ List.length L - (k + 1) < List.length L - k ∧ Tc_toCoreSLa L (li ((↑k : Int) + 1)) (Ob.arr true 8 (List.set
 (List.map coreC (fillTo L k)) (Int.toNat (↑k : Int)) (coreF (List.getD L k default)))) = Lc_toCoreSLa L (k + 1) ∧ Ic_toCoreSLa L (List.length L - (k + 1)) (Lc_toCoreSLa L (k +
 1))) ∧ (decide ((↑k : Int) < (↑(List.length (List.map coreC L)) : Int)) = false → True ∧ W0c_toCoreSLa L (Ob.arr true 8 (List.map coreC (fillTo L k))) = W0c_toCoreSLa L (Ob.arr
 true 8 (List.map coreC L)))) := by kernel_rfl
theorem Sc_toCoreSLa (L : List Core) (h : List.length L + sumBy wC L ≤ 1048576) (ih : ∀ (x : Core), x ∈ L → wC x ≤ 1048576 → CallOK Try.prog 32 [] [coreA x] [Ob.arr true 1
 (List.map intC (Core.params x)), Ob.arr true 4 (List.map datumC (Datum.items (Core.datum x))), Ob.arr true 8 (List.map coreC (Core.kids x))] (AV.sv (SV.agg [vI (Core.kind x), vI
 (Core.number x), AC.ref 0, vI (Datum.kind (Core.datum x)), vI (Datum.number (Core.datum x)), vS (Datum.text (Core.datum x)), AC.ref 1, AC.ref 2])))  : LoopSem Try.prog (loopAt
 Try.f63 0) (Ic_toCoreSLa L) (Yc_toCoreSLa L) := by
  refine LoopSem.ofHead wide fun k h => ⟨_, _, run_c_toCoreSLa L k, ?_⟩
  with_reducible repeat' (first | apply And.intro | (intro; skip) | apply Hc_toCoreSLa | apply Ec_toCoreSLa | apply ih)
  all_goals (try simp only [size_list, List.length_map, Int.toNat_natCast, rng64, obsEq_iff, List.length_append, List.length_replicate, fillTo_len, decide_eq_true_eq, decide_eq_false_iff_not, ne_eq, lb_inj, li_inj, ls_inj, mk_toArray, tx_mkS, mkS_inj, size_mkS] at *)
  all_goals (try (first | with_reducible rfl | omega | assumption | exact getC (by first | omega | (simp only [fillTo_len]; omega) | grind) rfl | exact outcomeGet (by first | omega | (simp only [fillTo_len]; omega) | grind) | exact datumGet (by first | omega | (simp only [fillTo_len]; omega) | grind) | exact coreGet (by first | omega | (simp only [fillTo_len]; omega) | grind) | exact congrArg (Ob.arr true _) (fill_step (by first | omega | (simp only [fillTo_len]; omega) | grind) (by first | rfl | exact outcomeC_eq _ | exact datumC_eq _ | exact coreC_eq _)) | exact congrArg (Ob.arr true _) (fill_init (by first | rfl | exact outcomeC_eq _ | exact datumC_eq _ | exact coreC_eq _)) | grind [fillTo_all, getD_mem', sumBy_mem]))
theorem run_c_toCoreS (L : List Core) : aexec Try.prog (Option.getD (Func.body Try.f63) Code.skip) (entry [] [ll (List.map coreC L)] 23) [Orc.ghost (Ghost.sel [0] [0, 3, 4]),
 Orc.loop (List.length L - 0) (Lc_toCoreSLa L 0) (Ic_toCoreSLa L) [(True, AEx.exit 0, W0c_toCoreSLa L (Ob.arr true 8 (List.map coreC L)), [Orc.fin [0]])]] (finK Try.prog
 [ResultVar.tmp 2] [Ob.arr true 8 (List.map coreC L)] (AV.sv (SV.one (AC.ref 0)))) = (List.length (List.map coreC L) ≤ 9223372036854775807 → (0 ≤ (↑(List.length (List.map coreC L))
 : Int) ∧ 120 * Int.toNat (↑(List.length (List.map coreC L)) : Int) ≤ 281474976710656) ∧ Tc_toCoreSLa L (li 0) (Ob.arr true 8 (List.replicate (Int.toNat (↑(List.length (List.map
 coreC L)) : Int)) [cI 0, cI 0, Cell.list [], cI 0, cI 0, cS (ByteArray.mk #[]), Cell.list [], Cell.list []])) = Lc_toCoreSLa L 0 ∧ Ic_toCoreSLa L (List.length L - 0) (Lc_toCoreSLa
 L 0) ∧ LoopSem Try.prog (loopAt Try.f63 0) (Ic_toCoreSLa L) (Yc_toCoreSLa L) ∧ (True → ObsEq [Ob.arr true 8 (List.map coreC L)] [Ob.arr true 8 (List.map coreC L)] ∧ AV.sv (SV.one
 (AC.ref 0)) = AV.sv (SV.one (AC.ref 0))) ∧ True) := by kernel_rfl
theorem c_toCoreS (L : List Core) (h : L.length + sumBy wC L ≤ 1048576) (ih : ∀ x ∈ L, wC x ≤ 1048576 → CallOK Try.prog 32 [] [coreA x] [.arr true 1 (x.params.map intC), .arr true
 4 (x.datum.items.map datumC), .arr true 8 (x.kids.map coreC)] (.sv (.agg [vI x.kind, vI x.number, .ref 0, vI x.datum.kind, vI x.datum.number, vS x.datum.text, .ref 1, .ref 2]))) 
 : CallOK Try.prog 63 [] [ll (L.map coreC)] [.arr true 8 (L.map coreC)] (.sv (.one (.ref 0))) := by
  refine CallOK.ofRun wide (run_c_toCoreS L) Try.call63 Try.func63 rfl rfl rfl ?_
  with_reducible repeat' (first | apply And.intro | (intro; skip) | apply Hc_toCoreSLa | apply Ec_toCoreSLa | apply Sc_toCoreSLa)
  all_goals (try simp only [size_list, List.length_map, Int.toNat_natCast, rng64, obsEq_iff, List.length_append, List.length_replicate, fillTo_len, decide_eq_true_eq, decide_eq_false_iff_not, ne_eq, lb_inj, li_inj, ls_inj, mk_toArray, tx_mkS, mkS_inj, size_mkS] at *)
  all_goals (try (first | with_reducible rfl | omega | assumption | exact getC (by first | omega | (simp only [fillTo_len]; omega) | grind) rfl | exact outcomeGet (by first | omega | (simp only [fillTo_len]; omega) | grind) | exact datumGet (by first | omega | (simp only [fillTo_len]; omega) | grind) | exact coreGet (by first | omega | (simp only [fillTo_len]; omega) | grind) | exact congrArg (Ob.arr true _) (fill_step (by first | omega | (simp only [fillTo_len]; omega) | grind) (by first | rfl | exact outcomeC_eq _ | exact datumC_eq _ | exact coreC_eq _)) | exact congrArg (Ob.arr true _) (fill_init (by first | rfl | exact outcomeC_eq _ | exact datumC_eq _ | exact coreC_eq _)) | grind))


theorem run_c_toCore_s (x : Core) : aexec Try.prog (Option.getD (Func.body Try.f32) Code.skip) (entry [] [coreA x] 23) [Orc.call [Mode.rd] [Ob.arr true 1 (List.map intC
 (Core.params x))] (AV.sv (SV.one (AC.ref 0))), Orc.call [Mode.rd] [Ob.arr true 4 (List.map datumC (Datum.items (Core.datum x)))] (AV.sv (SV.agg [vI (Datum.kind (Core.datum x)), vI
 (Datum.number (Core.datum x)), vS (Datum.text (Core.datum x)), AC.ref 0])), Orc.call [Mode.rd] [Ob.arr true 8 (List.map coreC (Core.kids x))] (AV.sv (SV.one (AC.ref 0))), Orc.fin
 [3, 4, 5]] (finK Try.prog [ResultVar.cell 2 51] [Ob.arr true 1 (List.map intC (Core.params x)), Ob.arr true 4 (List.map datumC (Datum.items (Core.datum x))), Ob.arr true 8
 (List.map coreC (Core.kids x))] (AV.sv (SV.agg [vI (Core.kind x), vI (Core.number x), AC.ref 0, vI (Datum.kind (Core.datum x)), vI (Datum.number (Core.datum x)), vS (Datum.text
 (Core.datum x)), AC.ref 1, AC.ref 2]))) = (CallOK Try.prog 61 [] [ll (List.map intC (Core.params x))] [Ob.arr true 1 (List.map intC (Core.params x))] (AV.sv (SV.one (AC.ref 0))) ∧
 CallOK Try.prog 62 [] [datumA (Core.datum x)] [Ob.arr true 4 (List.map datumC (Datum.items (Core.datum x)))] (AV.sv (SV.agg [vI (Datum.kind (Core.datum x)), vI (Datum.number
 (Core.datum x)), vS (Datum.text (Core.datum x)), AC.ref 0])) ∧ CallOK Try.prog 63 [] [ll (List.map coreC (Core.kids x))] [Ob.arr true 8 (List.map coreC (Core.kids x))] (AV.sv
 (SV.one (AC.ref 0))) ∧ ObsEq [Ob.arr true 1 (List.map intC (Core.params x)), Ob.arr true 4 (List.map datumC (Datum.items (Core.datum x))), Ob.arr true 8 (List.map coreC (Core.kids
 x))] [Ob.arr true 1 (List.map intC (Core.params x)), Ob.arr true 4 (List.map datumC (Datum.items (Core.datum x))), Ob.arr true 8 (List.map coreC (Core.kids x))] ∧ AV.sv (SV.agg
 [vI (Core.kind x), vI (Core.number x), AC.ref 0, vI (Datum.kind (Core.datum x)), vI (Datum.number (Core.datum x)), vS (Datum.text (Core.datum x)), AC.ref 1, AC.ref 2]) = AV.sv
 (SV.agg [vI (Core.kind x), vI (Core.number x), AC.ref 0, vI (Datum.kind (Core.datum x)), vI (Datum.number (Core.datum x)), vS (Datum.text (Core.datum x)), AC.ref 1, AC.ref 2])) :=
 by kernel_rfl
theorem c_toCore_s (x : Core) (h : wC x ≤ 1048576) (ih : ∀ z ∈ x.kids, wC z ≤ 1048576 → CallOK Try.prog 32 [] [coreA z] [.arr true 1 (z.params.map intC), .arr true 4
 (z.datum.items.map datumC), .arr true 8 (z.kids.map coreC)] (.sv (.agg [vI z.kind, vI z.number, .ref 0, vI z.datum.kind, vI z.datum.number, vS z.datum.text, .ref 1, .ref 2])))  :
 CallOK Try.prog 32 [] [coreA x] [.arr true 1 (x.params.map intC), .arr true 4 (x.datum.items.map datumC), .arr true 8 (x.kids.map coreC)] (.sv (.agg [vI x.kind, vI x.number, .ref
 0, vI x.datum.kind, vI x.datum.number, vS x.datum.text, .ref 1, .ref 2])) := by
  refine CallOK.ofRun wide (run_c_toCore_s x) Try.call32 Try.func32 rfl rfl rfl ?_
  with_reducible repeat' (first | apply And.intro | (intro; skip) | apply c_toIntS | apply c_toDatum | apply c_toCoreS | apply ih)
  all_goals (try simp only [size_list, List.length_map, Int.toNat_natCast, rng64, obsEq_iff, List.length_append, List.length_replicate, fillTo_len, decide_eq_true_eq, decide_eq_false_iff_not, ne_eq, lb_inj, li_inj, ls_inj, mk_toArray, tx_mkS, mkS_inj, size_mkS] at *)
  all_goals (try (first | with_reducible rfl | omega | assumption | exact getC (by first | omega | (simp only [fillTo_len]; omega) | grind) rfl | exact outcomeGet (by first | omega | (simp only [fillTo_len]; omega) | grind) | exact datumGet (by first | omega | (simp only [fillTo_len]; omega) | grind) | exact coreGet (by first | omega | (simp only [fillTo_len]; omega) | grind) | exact congrArg (Ob.arr true _) (fill_step (by first | omega | (simp only [fillTo_len]; omega) | grind) (by first | rfl | exact outcomeC_eq _ | exact datumC_eq _ | exact coreC_eq _)) | exact congrArg (Ob.arr true _) (fill_init (by first | rfl | exact outcomeC_eq _ | exact datumC_eq _ | exact coreC_eq _)) | grind [wC_eq]))


theorem c_toCore (x : Core) : wC x ≤ 1048576 → CallOK Try.prog 32 [] [coreA x] [.arr true 1 (x.params.map intC), .arr true 4 (x.datum.items.map datumC), .arr true 8 (x.kids.map coreC)] (.sv (.agg [vI x.kind, vI x.number, .ref 0, vI x.datum.kind, vI x.datum.number, vS x.datum.text, .ref 1, .ref 2])) := Core.ind (fun x ih h => c_toCore_s x h ih) x

def Tc_eqCoreSLa (A : List Core) (B : List Core) (x0 : SV) : St := St.mk (regsOf 27 [(0, AV.sv (ll (List.map coreC A))), (1, AV.sv (ll (List.map coreC B))), (5, AV.sv x0)]) [] 0 
def Lc_eqCoreSLa (A : List Core) (B : List Core) (k : Nat) : St := Tc_eqCoreSLa A B (li (↑k : Int)) 
def Ic_eqCoreSLa (A : List Core) (B : List Core) : Nat → St → Prop := Head (Lc_eqCoreSLa A B) (fun k => k ≤ List.length A ∧ List.length A ≤ 9223372036854775807 ∧ List.length A =
 List.length B ∧ List.take k A = List.take k B) fun k => List.length A - k 
def W0c_eqCoreSLa (A : List Core) (B : List Core) : St := St.mk (regsOf 27 []) [] 0 
def W1c_eqCoreSLa (A : List Core) (B : List Core) (x0 : SV) : St := St.mk (regsOf 27 [(4, AV.sv x0)]) [] 0 
def Yc_eqCoreSLa (A : List Core) (B : List Core) : List (Prop × AEx × St) := [(A = B, AEx.exit 0, W0c_eqCoreSLa A B), (A ≠ B, AEx.ret, W1c_eqCoreSLa A B (lb false))]
theorem Hc_eqCoreSLa {A : List Core} {B : List Core} {k : Nat} {m : Nat} (h : (fun k => k ≤ List.length A ∧ List.length A ≤ 9223372036854775807 ∧ List.length A = List.length B ∧
 List.take k A = List.take k B) k) (hm : (fun k => List.length A - k) k = m) : Ic_eqCoreSLa A B m (Lc_eqCoreSLa A B k) := hm ▸ Head.mk h
theorem Ec_eqCoreSLa {A : List Core} {B : List Core} {k : Nat} {x0 : SV} (h0 : x0 = (li (↑k : Int))) : Tc_eqCoreSLa A B x0 = Lc_eqCoreSLa A B k := by (rw [h0]; rfl)
theorem run_c_eqCoreSLa (A : List Core) (B : List Core) (k : Nat) : aexec Try.prog (loopAt Try.f65 0) (Lc_eqCoreSLa A B k) [Orc.br [Orc.draw [], Orc.cells (coreF (List.getD A k
 default)), Orc.cells (coreF (List.getD B k default)), Orc.call [Mode.rd, Mode.rd] [] (AV.sv (lb (decide (List.getD A k default = List.getD B k default)))), Orc.br [Orc.ghost
 (Ghost.sel [] [4]), Orc.out 1] [Orc.ghost (Ghost.sel [] [0, 1, 5]), Orc.goto (List.length A - (k + 1)) (Lc_eqCoreSLa A B (k + 1))]] [Orc.ghost (Ghost.sel [] []), Orc.out 0]]
 (loopK (Ic_eqCoreSLa A B) (Yc_eqCoreSLa A B) (List.length A - k)) = (List.length (List.map coreC A) ≤ 9223372036854775807 → (decide ((↑k : Int) < (↑(List.length (List.map coreC
 A)) : Int)) = true → (0 ≤ (↑k : Int) ∧ (List.map coreC A)[Int.toNat (↑k : Int)]? = some (coreF (List.getD A k default))) ∧ (0 ≤ (↑k : Int) ∧ (List.map coreC B)[Int.toNat (↑k :
 Int)]? = some (coreF (List.getD B k default))) ∧ CallOK Try.prog 34 [] [coreA (List.getD A k default), coreA (List.getD B k default)] [] (AV.sv (lb (decide (List.getD A k default
 = List.getD B k default)))) ∧ ((!decide (List.getD A k default = List.getD B k default)) = true → A ≠ B ∧ W1c_eqCoreSLa A B (lb false) = W1c_eqCoreSLa A B (lb false)) ∧ ((!decide
 (List.getD A k default = List.getD B k default)) = false → rng IntKind.i64 ((↑k : Int) + 1) ∧ List.length A - (k + 1) < List.length A - k ∧ Tc_eqCoreSLa A B (li ((↑k : Int) + 1))
 = Lc_eqCoreSLa A B (k + 1) ∧ Ic_eqCoreSLa A B (List.length A - (k + 1)) (Lc_eqCoreSLa A B (k + 1)))) ∧ (decide ((↑k : Int) < (↑(List.length (List.map coreC A)) : Int)) = false → A
 = B ∧ W0c_eqCoreSLa A B = W0c_eqCoreSLa A B)) := by kernel_rfl
theorem Sc_eqCoreSLa (A : List Core) (B : List Core) (ih : ∀ (x : Core), x ∈ A → ∀ (y : Core), CallOK Try.prog 34 [] [coreA x, coreA y] [] (AV.sv (lb (decide (x = y)))))  : LoopSem
 Try.prog (loopAt Try.f65 0) (Ic_eqCoreSLa A B) (Yc_eqCoreSLa A B) := by
  refine LoopSem.ofHead wide fun k h => ⟨_, _, run_c_eqCoreSLa A B k, ?_⟩
  with_reducible repeat' (first | apply And.intro | (intro; skip) | apply Hc_eqCoreSLa | apply Ec_eqCoreSLa | apply ih)
  all_goals (try simp only [size_list, List.length_map, Int.toNat_natCast, rng64, obsEq_iff, List.length_append, List.length_replicate, fillTo_len, decide_eq_true_eq, decide_eq_false_iff_not, ne_eq, lb_inj, li_inj, ls_inj, mk_toArray, tx_mkS, mkS_inj, size_mkS] at *)
  all_goals (try (first | with_reducible rfl | omega | assumption | exact getC (by first | omega | (simp only [fillTo_len]; omega) | grind) rfl | exact outcomeGet (by first | omega | (simp only [fillTo_len]; omega) | grind) | exact datumGet (by first | omega | (simp only [fillTo_len]; omega) | grind) | exact coreGet (by first | omega | (simp only [fillTo_len]; omega) | grind) | exact congrArg (Ob.arr true _) (fill_step (by first | omega | (simp only [fillTo_len]; omega) | grind) (by first | rfl | exact outcomeC_eq _ | exact datumC_eq _ | exact coreC_eq _)) | exact congrArg (Ob.arr true _) (fill_init (by first | rfl | exact outcomeC_eq _ | exact datumC_eq _ | exact coreC_eq _)) | grind [take_eq, getD_mem']))
theorem run_c_eqCoreS (A : List Core) (B : List Core) : aexec Try.prog (Option.getD (Func.body Try.f65) Code.skip) (entry [] [ll (List.map coreC A), ll (List.map coreC B)] 27)
 [Orc.br [Orc.fin []] [Orc.ghost (Ghost.sel [] [0, 1, 5]), Orc.loop (List.length A - 0) (Lc_eqCoreSLa A B 0) (Ic_eqCoreSLa A B) [(A = B, AEx.exit 0, W0c_eqCoreSLa A B, [Orc.fin
 []]), (A ≠ B, AEx.ret, W1c_eqCoreSLa A B (lb false), [Orc.fin []])]]] (finK Try.prog [ResultVar.tmp 4] [] (AV.sv (lb (decide (A = B))))) = (List.length (List.map coreC A) ≤
 9223372036854775807 → List.length (List.map coreC B) ≤ 9223372036854775807 → (decide ((↑(List.length (List.map coreC A)) : Int) ≠ (↑(List.length (List.map coreC B)) : Int)) = true
 → ObsEq [] [] ∧ AV.sv (lb false) = AV.sv (lb (decide (A = B)))) ∧ (decide ((↑(List.length (List.map coreC A)) : Int) ≠ (↑(List.length (List.map coreC B)) : Int)) = false →
 Tc_eqCoreSLa A B (li 0) = Lc_eqCoreSLa A B 0 ∧ Ic_eqCoreSLa A B (List.length A - 0) (Lc_eqCoreSLa A B 0) ∧ LoopSem Try.prog (loopAt Try.f65 0) (Ic_eqCoreSLa A B) (Yc_eqCoreSLa A
 B) ∧ (A = B → ObsEq [] [] ∧ AV.sv (lb true) = AV.sv (lb (decide (A = B)))) ∧ ((A = B → False) → ObsEq [] [] ∧ AV.sv (lb false) = AV.sv (lb (decide (A = B)))) ∧ True)) := by
 kernel_rfl
theorem c_eqCoreS (A B : List Core) (ih : ∀ x ∈ A, ∀ y : Core, CallOK Try.prog 34 [] [coreA x, coreA y] [] (.sv (lb (decide (x = y)))))  : CallOK Try.prog 65 [] [ll (A.map coreC),
 ll (B.map coreC)] [] (.sv (lb (decide (A = B)))) := by
  refine CallOK.ofRun wide (run_c_eqCoreS A B) Try.call65 Try.func65 rfl rfl rfl ?_
  with_reducible repeat' (first | apply And.intro | (intro; skip) | apply Hc_eqCoreSLa | apply Ec_eqCoreSLa | apply Sc_eqCoreSLa)
  all_goals (try simp only [size_list, List.length_map, Int.toNat_natCast, rng64, obsEq_iff, List.length_append, List.length_replicate, fillTo_len, decide_eq_true_eq, decide_eq_false_iff_not, ne_eq, lb_inj, li_inj, ls_inj, mk_toArray, tx_mkS, mkS_inj, size_mkS] at *)
  all_goals (try (first | with_reducible rfl | omega | assumption | exact getC (by first | omega | (simp only [fillTo_len]; omega) | grind) rfl | exact outcomeGet (by first | omega | (simp only [fillTo_len]; omega) | grind) | exact datumGet (by first | omega | (simp only [fillTo_len]; omega) | grind) | exact coreGet (by first | omega | (simp only [fillTo_len]; omega) | grind) | exact congrArg (Ob.arr true _) (fill_step (by first | omega | (simp only [fillTo_len]; omega) | grind) (by first | rfl | exact outcomeC_eq _ | exact datumC_eq _ | exact coreC_eq _)) | exact congrArg (Ob.arr true _) (fill_init (by first | rfl | exact outcomeC_eq _ | exact datumC_eq _ | exact coreC_eq _)) | grind))


theorem run_c_eqCore_s (x : Core) (y : Core) : aexec Try.prog (Option.getD (Func.body Try.f34) Code.skip) (entry [] [coreA x, coreA y] 33) [Orc.br [Orc.fin []] [Orc.br [Orc.fin []]
 [Orc.call [Mode.rd, Mode.rd] [] (AV.sv (lb (decide (Core.params x = Core.params y)))), Orc.br [Orc.fin []] [Orc.call [Mode.rd, Mode.rd] [] (AV.sv (lb (decide (Core.datum x =
 Core.datum y)))), Orc.br [Orc.fin []] [Orc.call [Mode.rd, Mode.rd] [] (AV.sv (lb (decide (Core.kids x = Core.kids y)))), Orc.br [Orc.fin []] [Orc.fin []]]]]]] (finK Try.prog
 [ResultVar.tmp 4] [] (AV.sv (lb (decide (x = y))))) = ((decide (Core.kind x ≠ Core.kind y) = true → ObsEq [] [] ∧ AV.sv (lb false) = AV.sv (lb (decide (x = y)))) ∧ (decide
 (Core.kind x ≠ Core.kind y) = false → (decide (Core.number x ≠ Core.number y) = true → ObsEq [] [] ∧ AV.sv (lb false) = AV.sv (lb (decide (x = y)))) ∧ (decide (Core.number x ≠
 Core.number y) = false → CallOK Try.prog 41 [] [ll (List.map intC (Core.params x)), ll (List.map intC (Core.params y))] [] (AV.sv (lb (decide (Core.params x = Core.params y)))) ∧
 ((!decide (Core.params x = Core.params y)) = true → ObsEq [] [] ∧ AV.sv (lb false) = AV.sv (lb (decide (x = y)))) ∧ ((!decide (Core.params x = Core.params y)) = false → CallOK
 Try.prog 64 [] [datumA (Core.datum x), datumA (Core.datum y)] [] (AV.sv (lb (decide (Core.datum x = Core.datum y)))) ∧ ((!decide (Core.datum x = Core.datum y)) = true → ObsEq []
 [] ∧ AV.sv (lb false) = AV.sv (lb (decide (x = y)))) ∧ ((!decide (Core.datum x = Core.datum y)) = false → CallOK Try.prog 65 [] [ll (List.map coreC (Core.kids x)), ll (List.map
 coreC (Core.kids y))] [] (AV.sv (lb (decide (Core.kids x = Core.kids y)))) ∧ ((!decide (Core.kids x = Core.kids y)) = true → ObsEq [] [] ∧ AV.sv (lb false) = AV.sv (lb (decide (x
 = y)))) ∧ ((!decide (Core.kids x = Core.kids y)) = false → ObsEq [] [] ∧ AV.sv (lb true) = AV.sv (lb (decide (x = y))))))))) := by kernel_rfl
theorem c_eqCore_s (x y : Core) (ih : ∀ z ∈ x.kids, ∀ y : Core, CallOK Try.prog 34 [] [coreA z, coreA y] [] (.sv (lb (decide (z = y)))))  : CallOK Try.prog 34 [] [coreA x, coreA y]
 [] (.sv (lb (decide (x = y)))) := by
  refine CallOK.ofRun wide (run_c_eqCore_s x y) Try.call34 Try.func34 rfl rfl rfl ?_
  simp only [coreExt]
  with_reducible repeat' (first | apply And.intro | (intro; skip) | apply c_eqIntS | apply c_eqDatum | apply c_eqCoreS | apply ih)
  all_goals (try simp only [size_list, List.length_map, Int.toNat_natCast, rng64, obsEq_iff, List.length_append, List.length_replicate, fillTo_len, decide_eq_true_eq, decide_eq_false_iff_not, ne_eq, lb_inj, li_inj, ls_inj, mk_toArray, tx_mkS, mkS_inj, size_mkS] at *)
  all_goals (try (first | with_reducible rfl | omega | assumption | exact getC (by first | omega | (simp only [fillTo_len]; omega) | grind) rfl | exact outcomeGet (by first | omega | (simp only [fillTo_len]; omega) | grind) | exact datumGet (by first | omega | (simp only [fillTo_len]; omega) | grind) | exact coreGet (by first | omega | (simp only [fillTo_len]; omega) | grind) | exact congrArg (Ob.arr true _) (fill_step (by first | omega | (simp only [fillTo_len]; omega) | grind) (by first | rfl | exact outcomeC_eq _ | exact datumC_eq _ | exact coreC_eq _)) | exact congrArg (Ob.arr true _) (fill_init (by first | rfl | exact outcomeC_eq _ | exact datumC_eq _ | exact coreC_eq _)) | grind [bytes_ext]))


theorem c_eqCore (x : Core) : ∀ y : Core, CallOK Try.prog 34 [] [coreA x, coreA y] [] (.sv (lb (decide (x = y)))) := Core.ind (fun x ih y => c_eqCore_s x y ih) x

end Go.Proofs.Ytjaahbkdpodbbaa
