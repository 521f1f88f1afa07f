/- The contracts of EqualOutcomes (both packages) and of the law that compares them. No condition. -/
import Derived.Test.YtjaahbkdpodbbaaData
namespace Go.Proofs.Ytjaahbkdpodbbaa
open Go Go.Proofs.Ytjaahbkdpodbbaa.Ab
set_option linter.unusedVariables false
set_option linter.unusedSimpArgs false

def Tc53La (L : List ByteArray) (left : Int) (x0 : SV) (x1 : SV) : St := St.mk (regsOf 28 [(0, AV.sv (ll (List.map strC L))), (1, AV.sv x1), (5, AV.sv x0)]) [] 0 
def Lc53La (L : List ByteArray) (left : Int) (k : Nat × Int) : St := Tc53La L left (li (↑(Prod.fst k) : Int)) (li (Prod.snd k)) 
def Ic53La (L : List ByteArray) (left : Int) : Nat → St → Prop := Head (Lc53La L left) (fun k => Prod.fst k ≤ List.length L ∧ 0 ≤ Prod.snd k ∧ Prod.snd k ≤ left ∧ sz (sumBy
 ByteArray.size (List.drop (Prod.fst k) L)) (Prod.snd k) = sz (wS L) left) fun k => List.length L - Prod.fst k 
def W0c53La (L : List ByteArray) (left : Int) (x0 : SV) : St := St.mk (regsOf 28 [(1, AV.sv x0)]) [] 0 
def W1c53La (L : List ByteArray) (left : Int) (x0 : SV) : St := St.mk (regsOf 28 [(4, AV.sv x0)]) [] 0 
def Yc53La (L : List ByteArray) (left : Int) : List (Prop × AEx × St) := [(0 ≤ sz (wS L) left, AEx.exit 0, W0c53La L left (li (sz (wS L) left))), (sz (wS L) left = -1, AEx.ret,
 W1c53La L left (li (-1)))]
theorem Hc53La {L : List ByteArray} {left : Int} {k : Nat × Int} {m : Nat} (h : (fun k => Prod.fst k ≤ List.length L ∧ 0 ≤ Prod.snd k ∧ Prod.snd k ≤ left ∧ sz (sumBy ByteArray.size
 (List.drop (Prod.fst k) L)) (Prod.snd k) = sz (wS L) left) k) (hm : (fun k => List.length L - Prod.fst k) k = m) : Ic53La L left m (Lc53La L left k) := hm ▸ Head.mk h
theorem Ec53La {L : List ByteArray} {left : Int} {k : Nat × Int} {x0 : SV} {x1 : SV} (h0 : x0 = (li (↑(Prod.fst k) : Int))) (h1 : x1 = (li (Prod.snd k))) : Tc53La L left x0 x1 =
 Lc53La L left k := by (rw [h0, h1]; rfl)
theorem run_c53La (L : List ByteArray) (left : Int) (k : Nat × Int) : aexec Try.prog (loopAt Try.f53 0) (Lc53La L left k) [Orc.br [Orc.cells (strC (List.getD L (Prod.fst k)
 default)), Orc.br [Orc.ghost (Ghost.sel [] [4]), Orc.out 1] [Orc.ghost (Ghost.sel [] [0, 1, 5]), Orc.goto (List.length L - (Prod.fst k + 1)) (Lc53La L left (Prod.fst k + 1,
 Prod.snd k - (↑(List.length (Array.toList (ByteArray.data (List.getD L (Prod.fst k) default)))) : Int)))]] [Orc.ghost (Ghost.sel [] [1]), Orc.out 0]] (loopK (Ic53La L left)
 (Yc53La L left) (List.length L - Prod.fst k)) = (List.length (List.map strC L) ≤ 9223372036854775807 → (decide ((↑(Prod.fst k) : Int) < (↑(List.length (List.map strC L)) : Int)) =
 true → (0 ≤ (↑(Prod.fst k) : Int) ∧ (List.map strC L)[Int.toNat (↑(Prod.fst k) : Int)]? = some [cS (List.getD L (Prod.fst k) default)]) ∧ (List.length (Array.toList
 (ByteArray.data (List.getD L (Prod.fst k) default))) ≤ 9223372036854775807 → rng IntKind.i64 (Prod.snd k - (↑(List.length (Array.toList (ByteArray.data (List.getD L (Prod.fst k)
 default)))) : Int)) ∧ (decide (Prod.snd k - (↑(List.length (Array.toList (ByteArray.data (List.getD L (Prod.fst k) default)))) : Int) < 0) = true → sz (wS L) left = -1 ∧ W1c53La L
 left (li (-1)) = W1c53La L left (li (-1))) ∧ (decide (Prod.snd k - (↑(List.length (Array.toList (ByteArray.data (List.getD L (Prod.fst k) default)))) : Int) < 0) = false → rng
 IntKind.i64 ((↑(Prod.fst k) : Int) + 1) ∧ List.length L - (Prod.fst k + 1) < List.length L - Prod.fst k ∧ Tc53La L left (li ((↑(Prod.fst k) : Int) + 1)) (li (Prod.snd k -
 (↑(List.length (Array.toList (ByteArray.data (List.getD L (Prod.fst k) default)))) : Int))) = Lc53La L left (Prod.fst k + 1, Prod.snd k - (↑(List.length (Array.toList
 (ByteArray.data (List.getD L (Prod.fst k) default)))) : Int)) ∧ Ic53La L left (List.length L - (Prod.fst k + 1)) (Lc53La L left (Prod.fst k + 1, Prod.snd k - (↑(List.length
 (Array.toList (ByteArray.data (List.getD L (Prod.fst k) default)))) : Int)))))) ∧ (decide ((↑(Prod.fst k) : Int) < (↑(List.length (List.map strC L)) : Int)) = false → 0 ≤ sz (wS
 L) left ∧ W0c53La L left (li (Prod.snd k)) = W0c53La L left (li (sz (wS L) left)))) := by kernel_rfl
theorem Sc53La (L : List ByteArray) (left : Int) (h : left ≤ 2147483647) (h0 : 0 ≤ left)  : LoopSem Try.prog (loopAt Try.f53 0) (Ic53La L left) (Yc53La L left) := by
  refine LoopSem.ofHead wide fun k h => ⟨_, _, run_c53La L left k, ?_⟩
  obtain ⟨i, n⟩ := k
  simp only at *
  with_reducible repeat' (first | apply And.intro | (intro; skip) | apply Hc53La | apply Ec53La)
  all_goals (try simp only [size_list, List.length_map, Int.toNat_natCast, rng64, obsEq_iff, List.length_append, List.length_replicate, fillTo_len, decide_eq_true_eq, decide_eq_false_iff_not, ne_eq, lb_inj, li_inj, ls_inj, mk_toArray, tx_mkS, mkS_inj, size_mkS] at *)
  all_goals (try (first | with_reducible rfl | omega | assumption | exact getC (by first | omega | (simp only [fillTo_len]; omega) | grind) rfl | exact outcomeGet (by first | omega | (simp only [fillTo_len]; omega) | grind) | exact datumGet (by first | omega | (simp only [fillTo_len]; omega) | grind) | exact coreGet (by first | omega | (simp only [fillTo_len]; omega) | grind) | exact congrArg (Ob.arr true _) (fill_step (by first | omega | (simp only [fillTo_len]; omega) | grind) (by first | rfl | exact outcomeC_eq _ | exact datumC_eq _ | exact coreC_eq _)) | exact congrArg (Ob.arr true _) (fill_init (by first | rfl | exact outcomeC_eq _ | exact datumC_eq _ | exact coreC_eq _)) | grind [drop_get, sumBy, sz]))
theorem run_c53 (L : List ByteArray) (left : Int) : aexec Try.prog (Option.getD (Func.body Try.f53) Code.skip) (entry [] [ll (List.map strC L), li left] 28) [Orc.br [Orc.fin []]
 [Orc.ghost (Ghost.sel [] [0, 1, 5]), Orc.loop (List.length L - 0) (Lc53La L left (0, left - (↑(List.length L) : Int))) (Ic53La L left) [(0 ≤ sz (wS L) left, AEx.exit 0, W0c53La L
 left (li (sz (wS L) left)), [Orc.fin []]), (sz (wS L) left = -1, AEx.ret, W1c53La L left (li (-1)), [Orc.fin []])]]] (finK Try.prog [ResultVar.tmp 4] [] (AV.sv (li (sz (wS L)
 left)))) = (List.length (List.map strC L) ≤ 9223372036854775807 → rng IntKind.i64 (left - (↑(List.length (List.map strC L)) : Int)) ∧ (decide (left - (↑(List.length (List.map strC
 L)) : Int) < 0) = true → ObsEq [] [] ∧ AV.sv (li (-1)) = AV.sv (li (sz (wS L) left))) ∧ (decide (left - (↑(List.length (List.map strC L)) : Int) < 0) = false → Tc53La L left (li
 0) (li (left - (↑(List.length (List.map strC L)) : Int))) = Lc53La L left (0, left - (↑(List.length L) : Int)) ∧ Ic53La L left (List.length L - 0) (Lc53La L left (0, left -
 (↑(List.length L) : Int))) ∧ LoopSem Try.prog (loopAt Try.f53 0) (Ic53La L left) (Yc53La L left) ∧ (Int.NonNeg (sz (wS L) left - 0) → ObsEq [] [] ∧ AV.sv (li (sz (wS L) left)) =
 AV.sv (li (sz (wS L) left))) ∧ (sz (wS L) left = -1 → ObsEq [] [] ∧ AV.sv (li (-1)) = AV.sv (li (sz (wS L) left))) ∧ True)) := by kernel_rfl
theorem c53 (L : List ByteArray) (left : Int) (h : left ≤ 2147483647) (h0 : 0 ≤ left)  : CallOK Try.prog 53 [] [ll (L.map strC), li left] [] (.sv (li (sz (wS L) left))) := by
  refine CallOK.ofRun wide (run_c53 L left) Try.call53 Try.func53 rfl rfl rfl ?_
  with_reducible repeat' (first | apply And.intro | (intro; skip) | apply Hc53La | apply Ec53La | apply Sc53La)
  all_goals (try simp only [size_list, List.length_map, Int.toNat_natCast, rng64, obsEq_iff, List.length_append, List.length_replicate, fillTo_len, decide_eq_true_eq, decide_eq_false_iff_not, ne_eq, lb_inj, li_inj, ls_inj, mk_toArray, tx_mkS, mkS_inj, size_mkS] at *)
  all_goals (try (first | with_reducible rfl | omega | assumption | exact getC (by first | omega | (simp only [fillTo_len]; omega) | grind) rfl | exact outcomeGet (by first | omega | (simp only [fillTo_len]; omega) | grind) | exact datumGet (by first | omega | (simp only [fillTo_len]; omega) | grind) | exact coreGet (by first | omega | (simp only [fillTo_len]; omega) | grind) | exact congrArg (Ob.arr true _) (fill_step (by first | omega | (simp only [fillTo_len]; omega) | grind) (by first | rfl | exact outcomeC_eq _ | exact datumC_eq _ | exact coreC_eq _)) | exact congrArg (Ob.arr true _) (fill_init (by first | rfl | exact outcomeC_eq _ | exact datumC_eq _ | exact coreC_eq _)) | grind [wS, sz]))


def Tc55La (L : List ByteArray) (x0 : SV) (x1 : Ob) : St := St.mk (regsOf 22 [(0, AV.sv (ll (List.map strC L))), (3, AV.sv (SV.one (AC.ref 0))), (4, AV.sv x0)]) [x1] 0 
def Lc55La (L : List ByteArray) (k : Nat) : St := Tc55La L (li (↑k : Int)) (Ob.arr true 1 (List.map strC (fillTo L k))) 
def Ic55La (L : List ByteArray) : Nat → St → Prop := Head (Lc55La L) (fun k => k ≤ List.length L) fun k => List.length L - k 
def W0c55La (L : List ByteArray) (x0 : Ob) : St := St.mk (regsOf 22 [(3, AV.sv (SV.one (AC.ref 0)))]) [x0] 0 
def Yc55La (L : List ByteArray) : List (Prop × AEx × St) := [(True, AEx.exit 0, W0c55La L (Ob.arr true 1 (List.map strC L)))]
theorem Hc55La {L : List ByteArray} {k : Nat} {m : Nat} (h : (fun k => k ≤ List.length L) k) (hm : (fun k => List.length L - k) k = m) : Ic55La L m (Lc55La L k) := hm ▸ Head.mk h
theorem Ec55La {L : List ByteArray} {k : Nat} {x0 : SV} {x1 : Ob} (h0 : x0 = (li (↑k : Int))) (h1 : x1 = (Ob.arr true 1 (List.map strC (fillTo L k)))) : Tc55La L x0 x1 = Lc55La L k
 := by (rw [h0, h1]; rfl)
theorem run_c55La (L : List ByteArray) (k : Nat) : aexec Try.prog (loopAt Try.f55 0) (Lc55La L k) [Orc.br [Orc.cells (strC (List.getD L k default)), Orc.cells (strC (List.getD
 (fillTo L k) (Int.toNat (↑k : Int)) default)), Orc.ghost (Ghost.sel [0] [0, 3, 4]), Orc.goto (List.length L - (k + 1)) (Lc55La L (k + 1))] [Orc.ghost (Ghost.sel [0] [3]), Orc.out
 0]] (loopK (Ic55La L) (Yc55La L) (List.length L - k)) = (List.length (List.map strC L) ≤ 9223372036854775807 → (decide ((↑k : Int) < (↑(List.length (List.map strC L)) : Int)) =
 true → (0 ≤ (↑k : Int) ∧ (List.map strC L)[Int.toNat (↑k : Int)]? = some [cS (List.getD L k default)]) ∧ (0 ≤ (↑k : Int) ∧ Int.toNat (↑k : Int) < List.length (List.map strC
 (fillTo L k))) ∧ (List.map strC (fillTo L k))[Int.toNat (↑k : Int)]? = some [cS (List.getD (fillTo L k) (Int.toNat (↑k : Int)) default)] ∧ rng IntKind.i64 ((↑k : Int) + 1) ∧
 List.length L - (k + 1) < List.length L - k ∧ Tc55La L (li ((↑k : Int) + 1)) (Ob.arr true 1 (List.set (List.map strC (fillTo L k)) (Int.toNat (↑k : Int)) [cS (List.getD L k
 default)])) = Lc55La L (k + 1) ∧ Ic55La L (List.length L - (k + 1)) (Lc55La L (k + 1))) ∧ (decide ((↑k : Int) < (↑(List.length (List.map strC L)) : Int)) = false → True ∧ W0c55La
 L (Ob.arr true 1 (List.map strC (fillTo L k))) = W0c55La L (Ob.arr true 1 (List.map strC L)))) := by kernel_rfl
theorem Sc55La (L : List ByteArray) (h : List.length L ≤ 1048576)  : LoopSem Try.prog (loopAt Try.f55 0) (Ic55La L) (Yc55La L) := by
  refine LoopSem.ofHead wide fun k h => ⟨_, _, run_c55La L k, ?_⟩
  with_reducible repeat' (first | apply And.intro | (intro; skip) | apply Hc55La | apply Ec55La)
  all_goals (try simp only [size_list, List.length_map, Int.toNat_natCast, rng64, obsEq_iff, List.length_append, List.length_replicate, fillTo_len, decide_eq_true_eq, decide_eq_false_iff_not, ne_eq, lb_inj, li_inj, ls_inj, mk_toArray, tx_mkS, mkS_inj, size_mkS] at *)
  all_goals (try (first | with_reducible rfl | omega | assumption | exact getC (by first | omega | (simp only [fillTo_len]; omega) | grind) rfl | exact outcomeGet (by first | omega | (simp only [fillTo_len]; omega) | grind) | exact datumGet (by first | omega | (simp only [fillTo_len]; omega) | grind) | exact coreGet (by first | omega | (simp only [fillTo_len]; omega) | grind) | exact congrArg (Ob.arr true _) (fill_step (by first | omega | (simp only [fillTo_len]; omega) | grind) (by first | rfl | exact outcomeC_eq _ | exact datumC_eq _ | exact coreC_eq _)) | exact congrArg (Ob.arr true _) (fill_init (by first | rfl | exact outcomeC_eq _ | exact datumC_eq _ | exact coreC_eq _)) | grind [fillTo_all]))
theorem run_c55 (L : List ByteArray) : aexec Try.prog (Option.getD (Func.body Try.f55) Code.skip) (entry [] [ll (List.map strC L)] 22) [Orc.ghost (Ghost.sel [0] [0, 3, 4]),
 Orc.loop (List.length L - 0) (Lc55La L 0) (Ic55La L) [(True, AEx.exit 0, W0c55La L (Ob.arr true 1 (List.map strC L)), [Orc.fin [0]])]] (finK Try.prog [ResultVar.tmp 2] [Ob.arr
 true 1 (List.map strC L)] (AV.sv (SV.one (AC.ref 0)))) = (List.length (List.map strC L) ≤ 9223372036854775807 → (0 ≤ (↑(List.length (List.map strC L)) : Int) ∧ 16 * Int.toNat
 (↑(List.length (List.map strC L)) : Int) ≤ 281474976710656) ∧ Tc55La L (li 0) (Ob.arr true 1 (List.replicate (Int.toNat (↑(List.length (List.map strC L)) : Int)) [cS (ByteArray.mk
 #[])])) = Lc55La L 0 ∧ Ic55La L (List.length L - 0) (Lc55La L 0) ∧ LoopSem Try.prog (loopAt Try.f55 0) (Ic55La L) (Yc55La L) ∧ (True → ObsEq [Ob.arr true 1 (List.map strC L)]
 [Ob.arr true 1 (List.map strC L)] ∧ AV.sv (SV.one (AC.ref 0)) = AV.sv (SV.one (AC.ref 0))) ∧ True) := by kernel_rfl
theorem c55 (L : List ByteArray) (h : L.length ≤ 1048576)  : CallOK Try.prog 55 [] [ll (L.map strC)] [.arr true 1 (L.map strC)] (.sv (.one (.ref 0))) := by
  refine CallOK.ofRun wide (run_c55 L) Try.call55 Try.func55 rfl rfl rfl ?_
  with_reducible repeat' (first | apply And.intro | (intro; skip) | apply Hc55La | apply Ec55La | apply Sc55La)
  all_goals (try simp only [size_list, List.length_map, Int.toNat_natCast, rng64, obsEq_iff, List.length_append, List.length_replicate, fillTo_len, decide_eq_true_eq, decide_eq_false_iff_not, ne_eq, lb_inj, li_inj, ls_inj, mk_toArray, tx_mkS, mkS_inj, size_mkS] at *)
  all_goals (try (first | with_reducible rfl | omega | assumption | exact getC (by first | omega | (simp only [fillTo_len]; omega) | grind) rfl | exact outcomeGet (by first | omega | (simp only [fillTo_len]; omega) | grind) | exact datumGet (by first | omega | (simp only [fillTo_len]; omega) | grind) | exact coreGet (by first | omega | (simp only [fillTo_len]; omega) | grind) | exact congrArg (Ob.arr true _) (fill_step (by first | omega | (simp only [fillTo_len]; omega) | grind) (by first | rfl | exact outcomeC_eq _ | exact datumC_eq _ | exact coreC_eq _)) | exact congrArg (Ob.arr true _) (fill_init (by first | rfl | exact outcomeC_eq _ | exact datumC_eq _ | exact coreC_eq _)) | grind))


def Tc56La (A : List ByteArray) (B : List ByteArray) (x0 : SV) : St := St.mk (regsOf 26 [(0, AV.sv (ll (List.map strC A))), (1, AV.sv (ll (List.map strC B))), (5, AV.sv x0)]) [] 0 
def Lc56La (A : List ByteArray) (B : List ByteArray) (k : Nat) : St := Tc56La A B (li (↑k : Int)) 
def Ic56La (A : List ByteArray) (B : List ByteArray) : Nat → St → Prop := Head (Lc56La A B) (fun k => k ≤ List.length A ∧ List.length A ≤ 9223372036854775807 ∧ List.length A =
 List.length B ∧ List.take k A = List.take k B) fun k => List.length A - k 
def W0c56La (A : List ByteArray) (B : List ByteArray) : St := St.mk (regsOf 26 []) [] 0 
def W1c56La (A : List ByteArray) (B : List ByteArray) (x0 : SV) : St := St.mk (regsOf 26 [(4, AV.sv x0)]) [] 0 
def Yc56La (A : List ByteArray) (B : List ByteArray) : List (Prop × AEx × St) := [(A = B, AEx.exit 0, W0c56La A B), (A ≠ B, AEx.ret, W1c56La A B (lb false))]
theorem Hc56La {A : List ByteArray} {B : List ByteArray} {k : Nat} {m : Nat} (h : (fun k => k ≤ List.length A ∧ List.length A ≤ 9223372036854775807 ∧ List.length A = List.length B
 ∧ List.take k A = List.take k B) k) (hm : (fun k => List.length A - k) k = m) : Ic56La A B m (Lc56La A B k) := hm ▸ Head.mk h
theorem Ec56La {A : List ByteArray} {B : List ByteArray} {k : Nat} {x0 : SV} (h0 : x0 = (li (↑k : Int))) : Tc56La A B x0 = Lc56La A B k := by (rw [h0]; rfl)
theorem run_c56La (A : List ByteArray) (B : List ByteArray) (k : Nat) : aexec Try.prog (loopAt Try.f56 0) (Lc56La A B k) [Orc.br [Orc.draw [], Orc.cells (strC (List.getD A k
 default)), Orc.cells (strC (List.getD B k default)), Orc.br [Orc.ghost (Ghost.sel [] [4]), Orc.out 1] [Orc.ghost (Ghost.sel [] [0, 1, 5]), Orc.goto (List.length A - (k + 1))
 (Lc56La A B (k + 1))]] [Orc.ghost (Ghost.sel [] []), Orc.out 0]] (loopK (Ic56La A B) (Yc56La A B) (List.length A - k)) = (List.length (List.map strC A) ≤ 9223372036854775807 →
 (decide ((↑k : Int) < (↑(List.length (List.map strC A)) : Int)) = true → (0 ≤ (↑k : Int) ∧ (List.map strC A)[Int.toNat (↑k : Int)]? = some [cS (List.getD A k default)]) ∧ (0 ≤ (↑k
 : Int) ∧ (List.map strC B)[Int.toNat (↑k : Int)]? = some [cS (List.getD B k default)]) ∧ (decide (Array.toList (ByteArray.data (List.getD A k default)) ≠ Array.toList
 (ByteArray.data (List.getD B k default))) = true → A ≠ B ∧ W1c56La A B (lb false) = W1c56La A B (lb false)) ∧ (decide (Array.toList (ByteArray.data (List.getD A k default)) ≠
 Array.toList (ByteArray.data (List.getD B k default))) = false → rng IntKind.i64 ((↑k : Int) + 1) ∧ List.length A - (k + 1) < List.length A - k ∧ Tc56La A B (li ((↑k : Int) + 1))
 = Lc56La A B (k + 1) ∧ Ic56La A B (List.length A - (k + 1)) (Lc56La A B (k + 1)))) ∧ (decide ((↑k : Int) < (↑(List.length (List.map strC A)) : Int)) = false → A = B ∧ W0c56La A B
 = W0c56La A B)) := by kernel_rfl
theorem Sc56La (A : List ByteArray) (B : List ByteArray)  : LoopSem Try.prog (loopAt Try.f56 0) (Ic56La A B) (Yc56La A B) := by
  refine LoopSem.ofHead wide fun k h => ⟨_, _, run_c56La A B k, ?_⟩
  with_reducible repeat' (first | apply And.intro | (intro; skip) | apply Hc56La | apply Ec56La)
  all_goals (try simp only [size_list, List.length_map, Int.toNat_natCast, rng64, obsEq_iff, List.length_append, List.length_replicate, fillTo_len, decide_eq_true_eq, decide_eq_false_iff_not, ne_eq, lb_inj, li_inj, ls_inj, mk_toArray, tx_mkS, mkS_inj, size_mkS] at *)
  all_goals (try (first | with_reducible rfl | omega | assumption | exact getC (by first | omega | (simp only [fillTo_len]; omega) | grind) rfl | exact outcomeGet (by first | omega | (simp only [fillTo_len]; omega) | grind) | exact datumGet (by first | omega | (simp only [fillTo_len]; omega) | grind) | exact coreGet (by first | omega | (simp only [fillTo_len]; omega) | grind) | exact congrArg (Ob.arr true _) (fill_step (by first | omega | (simp only [fillTo_len]; omega) | grind) (by first | rfl | exact outcomeC_eq _ | exact datumC_eq _ | exact coreC_eq _)) | exact congrArg (Ob.arr true _) (fill_init (by first | rfl | exact outcomeC_eq _ | exact datumC_eq _ | exact coreC_eq _)) | grind [take_eq, bytes_ext]))
theorem run_c56 (A : List ByteArray) (B : List ByteArray) : aexec Try.prog (Option.getD (Func.body Try.f56) Code.skip) (entry [] [ll (List.map strC A), ll (List.map strC B)] 26)
 [Orc.br [Orc.fin []] [Orc.ghost (Ghost.sel [] [0, 1, 5]), Orc.loop (List.length A - 0) (Lc56La A B 0) (Ic56La A B) [(A = B, AEx.exit 0, W0c56La A B, [Orc.fin []]), (A ≠ B,
 AEx.ret, W1c56La A B (lb false), [Orc.fin []])]]] (finK Try.prog [ResultVar.tmp 4] [] (AV.sv (lb (decide (A = B))))) = (List.length (List.map strC A) ≤ 9223372036854775807 →
 List.length (List.map strC B) ≤ 9223372036854775807 → (decide ((↑(List.length (List.map strC A)) : Int) ≠ (↑(List.length (List.map strC B)) : Int)) = true → ObsEq [] [] ∧ AV.sv
 (lb false) = AV.sv (lb (decide (A = B)))) ∧ (decide ((↑(List.length (List.map strC A)) : Int) ≠ (↑(List.length (List.map strC B)) : Int)) = false → Tc56La A B (li 0) = Lc56La A B
 0 ∧ Ic56La A B (List.length A - 0) (Lc56La A B 0) ∧ LoopSem Try.prog (loopAt Try.f56 0) (Ic56La A B) (Yc56La A B) ∧ (A = B → ObsEq [] [] ∧ AV.sv (lb true) = AV.sv (lb (decide (A =
 B)))) ∧ ((A = B → False) → ObsEq [] [] ∧ AV.sv (lb false) = AV.sv (lb (decide (A = B)))) ∧ True)) := by kernel_rfl
theorem c56 (A B : List ByteArray)  : CallOK Try.prog 56 [] [ll (A.map strC), ll (B.map strC)] [] (.sv (lb (decide (A = B)))) := by
  refine CallOK.ofRun wide (run_c56 A B) Try.call56 Try.func56 rfl rfl rfl ?_
  with_reducible repeat' (first | apply And.intro | (intro; skip) | apply Hc56La | apply Ec56La | apply Sc56La)
  all_goals (try simp only [size_list, List.length_map, Int.toNat_natCast, rng64, obsEq_iff, List.length_append, List.length_replicate, fillTo_len, decide_eq_true_eq, decide_eq_false_iff_not, ne_eq, lb_inj, li_inj, ls_inj, mk_toArray, tx_mkS, mkS_inj, size_mkS] at *)
  all_goals (try (first | with_reducible rfl | omega | assumption | exact getC (by first | omega | (simp only [fillTo_len]; omega) | grind) rfl | exact outcomeGet (by first | omega | (simp only [fillTo_len]; omega) | grind) | exact datumGet (by first | omega | (simp only [fillTo_len]; omega) | grind) | exact coreGet (by first | omega | (simp only [fillTo_len]; omega) | grind) | exact congrArg (Ob.arr true _) (fill_step (by first | omega | (simp only [fillTo_len]; omega) | grind) (by first | rfl | exact outcomeC_eq _ | exact datumC_eq _ | exact coreC_eq _)) | exact congrArg (Ob.arr true _) (fill_init (by first | rfl | exact outcomeC_eq _ | exact datumC_eq _ | exact coreC_eq _)) | grind))


def Tc54La (A : List ByteArray) (B : List ByteArray) (x0 : SV) : St := St.mk (regsOf 26 [(0, AV.sv (ll (List.map strC A))), (1, AV.sv (ll (List.map strC B))), (12, AV.sv (li
 (↑(List.length (List.map strC A)) : Int))), (13, AV.sv x0)]) [] 0 
def Lc54La (A : List ByteArray) (B : List ByteArray) (k : Nat) : St := Tc54La A B (li (↑k : Int)) 
def Ic54La (A : List ByteArray) (B : List ByteArray) : Nat → St → Prop := Head (Lc54La A B) (fun k => k ≤ List.length A ∧ List.length A ≤ 9223372036854775807 ∧ List.length A =
 List.length B ∧ List.take k A = List.take k B) fun k => List.length A - k 
def W0c54La (A : List ByteArray) (B : List ByteArray) : St := St.mk (regsOf 26 []) [] 0 
def W1c54La (A : List ByteArray) (B : List ByteArray) (x0 : SV) : St := St.mk (regsOf 26 [(4, AV.sv x0)]) [] 0 
def Yc54La (A : List ByteArray) (B : List ByteArray) : List (Prop × AEx × St) := [(A = B, AEx.exit 0, W0c54La A B), (A ≠ B, AEx.ret, W1c54La A B (lb false))]
theorem Hc54La {A : List ByteArray} {B : List ByteArray} {k : Nat} {m : Nat} (h : (fun k => k ≤ List.length A ∧ List.length A ≤ 9223372036854775807 ∧ List.length A = List.length B
 ∧ List.take k A = List.take k B) k) (hm : (fun k => List.length A - k) k = m) : Ic54La A B m (Lc54La A B k) := hm ▸ Head.mk h
theorem Ec54La {A : List ByteArray} {B : List ByteArray} {k : Nat} {x0 : SV} (h0 : x0 = (li (↑k : Int))) : Tc54La A B x0 = Lc54La A B k := by (rw [h0]; rfl)
theorem run_c54La (A : List ByteArray) (B : List ByteArray) (k : Nat) : aexec Try.prog (loopAt Try.f54 0) (Lc54La A B k) [Orc.br [Orc.draw [], Orc.cells (strC (List.getD A k
 default)), Orc.cells (strC (List.getD B k default)), Orc.br [Orc.ghost (Ghost.sel [] [4]), Orc.out 1] [Orc.ghost (Ghost.sel [] [0, 1, 12, 13]), Orc.goto (List.length A - (k + 1))
 (Lc54La A B (k + 1))]] [Orc.ghost (Ghost.sel [] []), Orc.out 0]] (loopK (Ic54La A B) (Yc54La A B) (List.length A - k)) = ((decide ((↑k : Int) < (↑(List.length (List.map strC A)) :
 Int)) = true → (0 ≤ (↑k : Int) ∧ (List.map strC A)[Int.toNat (↑k : Int)]? = some [cS (List.getD A k default)]) ∧ (0 ≤ (↑k : Int) ∧ (List.map strC B)[Int.toNat (↑k : Int)]? = some
 [cS (List.getD B k default)]) ∧ (decide (Array.toList (ByteArray.data (List.getD A k default)) ≠ Array.toList (ByteArray.data (List.getD B k default))) = true → A ≠ B ∧ W1c54La A
 B (lb false) = W1c54La A B (lb false)) ∧ (decide (Array.toList (ByteArray.data (List.getD A k default)) ≠ Array.toList (ByteArray.data (List.getD B k default))) = false → rng
 IntKind.i64 ((↑k : Int) + 1) ∧ List.length A - (k + 1) < List.length A - k ∧ Tc54La A B (li ((↑k : Int) + 1)) = Lc54La A B (k + 1) ∧ Ic54La A B (List.length A - (k + 1)) (Lc54La A
 B (k + 1)))) ∧ (decide ((↑k : Int) < (↑(List.length (List.map strC A)) : Int)) = false → A = B ∧ W0c54La A B = W0c54La A B)) := by kernel_rfl
theorem Sc54La (A : List ByteArray) (B : List ByteArray)  : LoopSem Try.prog (loopAt Try.f54 0) (Ic54La A B) (Yc54La A B) := by
  refine LoopSem.ofHead wide fun k h => ⟨_, _, run_c54La A B k, ?_⟩
  with_reducible repeat' (first | apply And.intro | (intro; skip) | apply Hc54La | apply Ec54La)
  all_goals (try simp only [size_list, List.length_map, Int.toNat_natCast, rng64, obsEq_iff, List.length_append, List.length_replicate, fillTo_len, decide_eq_true_eq, decide_eq_false_iff_not, ne_eq, lb_inj, li_inj, ls_inj, mk_toArray, tx_mkS, mkS_inj, size_mkS] at *)
  all_goals (try (first | with_reducible rfl | omega | assumption | exact getC (by first | omega | (simp only [fillTo_len]; omega) | grind) rfl | exact outcomeGet (by first | omega | (simp only [fillTo_len]; omega) | grind) | exact datumGet (by first | omega | (simp only [fillTo_len]; omega) | grind) | exact coreGet (by first | omega | (simp only [fillTo_len]; omega) | grind) | exact congrArg (Ob.arr true _) (fill_step (by first | omega | (simp only [fillTo_len]; omega) | grind) (by first | rfl | exact outcomeC_eq _ | exact datumC_eq _ | exact coreC_eq _)) | exact congrArg (Ob.arr true _) (fill_init (by first | rfl | exact outcomeC_eq _ | exact datumC_eq _ | exact coreC_eq _)) | grind [take_eq, bytes_ext]))
theorem run_c54 (A : List ByteArray) (B : List ByteArray) : aexec Try.prog (Option.getD (Func.body Try.f54) Code.skip) (entry [] [ll (List.map strC A), ll (List.map strC B)] 26)
 [Orc.br [Orc.fin []] [Orc.ghost (Ghost.sel [] [0, 1, 12, 13]), Orc.loop (List.length A - 0) (Lc54La A B 0) (Ic54La A B) [(A = B, AEx.exit 0, W0c54La A B, [Orc.fin []]), (A ≠ B,
 AEx.ret, W1c54La A B (lb false), [Orc.fin []])]]] (finK Try.prog [ResultVar.tmp 4] [] (AV.sv (lb (decide (A = B))))) = (List.length (List.map strC A) ≤ 9223372036854775807 →
 List.length (List.map strC B) ≤ 9223372036854775807 → (decide ((↑(List.length (List.map strC A)) : Int) ≠ (↑(List.length (List.map strC B)) : Int)) = true → ObsEq [] [] ∧ AV.sv
 (lb false) = AV.sv (lb (decide (A = B)))) ∧ (decide ((↑(List.length (List.map strC A)) : Int) ≠ (↑(List.length (List.map strC B)) : Int)) = false → List.length (List.map strC A) ≤
 9223372036854775807 → Tc54La A B (li 0) = Lc54La A B 0 ∧ Ic54La A B (List.length A - 0) (Lc54La A B 0) ∧ LoopSem Try.prog (loopAt Try.f54 0) (Ic54La A B) (Yc54La A B) ∧ (A = B →
 ObsEq [] [] ∧ AV.sv (lb true) = AV.sv (lb (decide (A = B)))) ∧ ((A = B → False) → ObsEq [] [] ∧ AV.sv (lb false) = AV.sv (lb (decide (A = B)))) ∧ True)) := by kernel_rfl
theorem c54 (A B : List ByteArray)  : CallOK Try.prog 54 [] [ll (A.map strC), ll (B.map strC)] [] (.sv (lb (decide (A = B)))) := by
  refine CallOK.ofRun wide (run_c54 A B) Try.call54 Try.func54 rfl rfl rfl ?_
  with_reducible repeat' (first | apply And.intro | (intro; skip) | apply Hc54La | apply Ec54La | apply Sc54La)
  all_goals (try simp only [size_list, List.length_map, Int.toNat_natCast, rng64, obsEq_iff, List.length_append, List.length_replicate, fillTo_len, decide_eq_true_eq, decide_eq_false_iff_not, ne_eq, lb_inj, li_inj, ls_inj, mk_toArray, tx_mkS, mkS_inj, size_mkS] at *)
  all_goals (try (first | with_reducible rfl | omega | assumption | exact getC (by first | omega | (simp only [fillTo_len]; omega) | grind) rfl | exact outcomeGet (by first | omega | (simp only [fillTo_len]; omega) | grind) | exact datumGet (by first | omega | (simp only [fillTo_len]; omega) | grind) | exact coreGet (by first | omega | (simp only [fillTo_len]; omega) | grind) | exact congrArg (Ob.arr true _) (fill_step (by first | omega | (simp only [fillTo_len]; omega) | grind) (by first | rfl | exact outcomeC_eq _ | exact datumC_eq _ | exact coreC_eq _)) | exact congrArg (Ob.arr true _) (fill_init (by first | rfl | exact outcomeC_eq _ | exact datumC_eq _ | exact coreC_eq _)) | grind))


theorem run_c23 (o : Outcome) (left : Int) : aexec Try.prog (Option.getD (Func.body Try.f23) Code.skip) (entry [] [outcomeA o, li left] 19) [Orc.br [Orc.fin []] [Orc.call [Mode.rd,
 Mode.rd] [] (AV.sv (li (sz (wS (Outcome.output o)) (left - (↑(List.length (Array.toList (ByteArray.data (Outcome.text o)))) : Int))))), Orc.br [Orc.fin []] [Orc.fin []]]] (finK
 Try.prog [ResultVar.tmp 4] [] (AV.sv (li (sz (wO o) left)))) = (List.length (Array.toList (ByteArray.data (Outcome.text o))) ≤ 9223372036854775807 → rng IntKind.i64 (left -
 (↑(List.length (Array.toList (ByteArray.data (Outcome.text o)))) : Int)) ∧ (decide (left - (↑(List.length (Array.toList (ByteArray.data (Outcome.text o)))) : Int) < 0) = true →
 ObsEq [] [] ∧ AV.sv (li (-1)) = AV.sv (li (sz (wO o) left))) ∧ (decide (left - (↑(List.length (Array.toList (ByteArray.data (Outcome.text o)))) : Int) < 0) = false → CallOK
 Try.prog 53 [] [ll (List.map strC (Outcome.output o)), li (left - (↑(List.length (Array.toList (ByteArray.data (Outcome.text o)))) : Int))] [] (AV.sv (li (sz (wS (Outcome.output
 o)) (left - (↑(List.length (Array.toList (ByteArray.data (Outcome.text o)))) : Int))))) ∧ (decide (sz (wS (Outcome.output o)) (left - (↑(List.length (Array.toList (ByteArray.data
 (Outcome.text o)))) : Int)) < 0) = true → ObsEq [] [] ∧ AV.sv (li (-1)) = AV.sv (li (sz (wO o) left))) ∧ (decide (sz (wS (Outcome.output o)) (left - (↑(List.length (Array.toList
 (ByteArray.data (Outcome.text o)))) : Int)) < 0) = false → ObsEq [] [] ∧ AV.sv (li (sz (wS (Outcome.output o)) (left - (↑(List.length (Array.toList (ByteArray.data (Outcome.text
 o)))) : Int)))) = AV.sv (li (sz (wO o) left))))) := by kernel_rfl
theorem c23 (o : Outcome) (left : Int) (h : left ≤ 2147483647) (h0 : 0 ≤ left)  : CallOK Try.prog 23 [] [outcomeA o, li left] [] (.sv (li (sz (wO o) left))) := by
  refine CallOK.ofRun wide (run_c23 o left) Try.call23 Try.func23 rfl rfl rfl ?_
  with_reducible repeat' (first | apply And.intro | (intro; skip) | apply c53)
  all_goals (try simp only [size_list, List.length_map, Int.toNat_natCast, rng64, obsEq_iff, List.length_append, List.length_replicate, fillTo_len, decide_eq_true_eq, decide_eq_false_iff_not, ne_eq, lb_inj, li_inj, ls_inj, mk_toArray, tx_mkS, mkS_inj, size_mkS] at *)
  all_goals (try (first | with_reducible rfl | omega | assumption | exact getC (by first | omega | (simp only [fillTo_len]; omega) | grind) rfl | exact outcomeGet (by first | omega | (simp only [fillTo_len]; omega) | grind) | exact datumGet (by first | omega | (simp only [fillTo_len]; omega) | grind) | exact coreGet (by first | omega | (simp only [fillTo_len]; omega) | grind) | exact congrArg (Ob.arr true _) (fill_step (by first | omega | (simp only [fillTo_len]; omega) | grind) (by first | rfl | exact outcomeC_eq _ | exact datumC_eq _ | exact coreC_eq _)) | exact congrArg (Ob.arr true _) (fill_init (by first | rfl | exact outcomeC_eq _ | exact datumC_eq _ | exact coreC_eq _)) | grind [wO, sz]))


theorem run_c25 (o : Outcome) : aexec Try.prog (Option.getD (Func.body Try.f25) Code.skip) (entry [] [outcomeA o] 21) [Orc.call [Mode.rd] [Ob.arr true 1 (List.map strC
 (Outcome.output o))] (AV.sv (SV.one (AC.ref 0))), Orc.fin [3]] (finK Try.prog [ResultVar.cell 2 32] [Ob.arr true 1 (List.map strC (Outcome.output o))] (AV.sv (SV.agg [vI
 (Outcome.status o), vS (Outcome.text o), AC.ref 0, vI (Outcome.ticks o), vI (Outcome.made o)]))) = (CallOK Try.prog 55 [] [ll (List.map strC (Outcome.output o))] [Ob.arr true 1
 (List.map strC (Outcome.output o))] (AV.sv (SV.one (AC.ref 0))) ∧ ObsEq [Ob.arr true 1 (List.map strC (Outcome.output o))] [Ob.arr true 1 (List.map strC (Outcome.output o))] ∧
 AV.sv (SV.agg [vI (Outcome.status o), vS (Outcome.text o), AC.ref 0, vI (Outcome.ticks o), vI (Outcome.made o)]) = AV.sv (SV.agg [vI (Outcome.status o), vS (Outcome.text o),
 AC.ref 0, vI (Outcome.ticks o), vI (Outcome.made o)])) := by kernel_rfl
theorem c25 (o : Outcome) (h : wO o ≤ 1048576)  : CallOK Try.prog 25 [] [outcomeA o] [.arr true 1 (o.output.map strC)] (.sv (.agg [vI o.status, vS o.text, .ref 0, vI o.ticks, vI
 o.made])) := by
  refine CallOK.ofRun wide (run_c25 o) Try.call25 Try.func25 rfl rfl rfl ?_
  with_reducible repeat' (first | apply And.intro | (intro; skip) | apply c55)
  all_goals (try simp only [size_list, List.length_map, Int.toNat_natCast, rng64, obsEq_iff, List.length_append, List.length_replicate, fillTo_len, decide_eq_true_eq, decide_eq_false_iff_not, ne_eq, lb_inj, li_inj, ls_inj, mk_toArray, tx_mkS, mkS_inj, size_mkS] at *)
  all_goals (try (first | with_reducible rfl | omega | assumption | exact getC (by first | omega | (simp only [fillTo_len]; omega) | grind) rfl | exact outcomeGet (by first | omega | (simp only [fillTo_len]; omega) | grind) | exact datumGet (by first | omega | (simp only [fillTo_len]; omega) | grind) | exact coreGet (by first | omega | (simp only [fillTo_len]; omega) | grind) | exact congrArg (Ob.arr true _) (fill_step (by first | omega | (simp only [fillTo_len]; omega) | grind) (by first | rfl | exact outcomeC_eq _ | exact datumC_eq _ | exact coreC_eq _)) | exact congrArg (Ob.arr true _) (fill_init (by first | rfl | exact outcomeC_eq _ | exact datumC_eq _ | exact coreC_eq _)) | grind [wO, wS]))


theorem run_c27 (a : Outcome) (b : Outcome) : aexec Try.prog (Option.getD (Func.body Try.f27) Code.skip) (entry [] [outcomeA a, outcomeA b] 31) [Orc.br [Orc.fin []] [Orc.br
 [Orc.fin []] [Orc.call [Mode.rd, Mode.rd] [] (AV.sv (lb (decide (Outcome.output a = Outcome.output b)))), Orc.br [Orc.fin []] [Orc.br [Orc.fin []] [Orc.br [Orc.fin []] [Orc.fin
 []]]]]]] (finK Try.prog [ResultVar.tmp 4] [] (AV.sv (lb (decide (a = b))))) = ((decide (Outcome.status a ≠ Outcome.status b) = true → ObsEq [] [] ∧ AV.sv (lb false) = AV.sv (lb
 (decide (a = b)))) ∧ (decide (Outcome.status a ≠ Outcome.status b) = false → (decide (Array.toList (ByteArray.data (Outcome.text a)) ≠ Array.toList (ByteArray.data (Outcome.text
 b))) = true → ObsEq [] [] ∧ AV.sv (lb false) = AV.sv (lb (decide (a = b)))) ∧ (decide (Array.toList (ByteArray.data (Outcome.text a)) ≠ Array.toList (ByteArray.data (Outcome.text
 b))) = false → CallOK Try.prog 56 [] [ll (List.map strC (Outcome.output a)), ll (List.map strC (Outcome.output b))] [] (AV.sv (lb (decide (Outcome.output a = Outcome.output b))))
 ∧ ((!decide (Outcome.output a = Outcome.output b)) = true → ObsEq [] [] ∧ AV.sv (lb false) = AV.sv (lb (decide (a = b)))) ∧ ((!decide (Outcome.output a = Outcome.output b)) =
 false → (decide (Outcome.ticks a ≠ Outcome.ticks b) = true → ObsEq [] [] ∧ AV.sv (lb false) = AV.sv (lb (decide (a = b)))) ∧ (decide (Outcome.ticks a ≠ Outcome.ticks b) = false →
 (decide (Outcome.made a ≠ Outcome.made b) = true → ObsEq [] [] ∧ AV.sv (lb false) = AV.sv (lb (decide (a = b)))) ∧ (decide (Outcome.made a ≠ Outcome.made b) = false → ObsEq [] []
 ∧ AV.sv (lb true) = AV.sv (lb (decide (a = b))))))))) := by kernel_rfl
theorem c27 (a b : Outcome)  : CallOK Try.prog 27 [] [outcomeA a, outcomeA b] [] (.sv (lb (decide (a = b)))) := by
  refine CallOK.ofRun wide (run_c27 a b) Try.call27 Try.func27 rfl rfl rfl ?_
  with_reducible repeat' (first | apply And.intro | (intro; skip) | apply c56)
  all_goals (try simp only [size_list, List.length_map, Int.toNat_natCast, rng64, obsEq_iff, List.length_append, List.length_replicate, fillTo_len, decide_eq_true_eq, decide_eq_false_iff_not, ne_eq, lb_inj, li_inj, ls_inj, mk_toArray, tx_mkS, mkS_inj, size_mkS] at *)
  all_goals (try (first | with_reducible rfl | omega | assumption | exact getC (by first | omega | (simp only [fillTo_len]; omega) | grind) rfl | exact outcomeGet (by first | omega | (simp only [fillTo_len]; omega) | grind) | exact datumGet (by first | omega | (simp only [fillTo_len]; omega) | grind) | exact coreGet (by first | omega | (simp only [fillTo_len]; omega) | grind) | exact congrArg (Ob.arr true _) (fill_step (by first | omega | (simp only [fillTo_len]; omega) | grind) (by first | rfl | exact outcomeC_eq _ | exact datumC_eq _ | exact coreC_eq _)) | exact congrArg (Ob.arr true _) (fill_init (by first | rfl | exact outcomeC_eq _ | exact datumC_eq _ | exact coreC_eq _)) | grind [Outcome, bytes_ext]))


theorem run_c24 (a : Outcome) (b : Outcome) : aexec Try.prog (Option.getD (Func.body Try.f24) Code.skip) (entry [] [outcomeA a, outcomeA b] 38) [Orc.br [Orc.br [Orc.call [Mode.rd,
 Mode.rd] [] (AV.sv (lb (decide (Outcome.output a = Outcome.output b)))), Orc.br [Orc.br [Orc.fin []] [Orc.fin []]] [Orc.bool false, Orc.fin []]] [Orc.bool false, Orc.bool false,
 Orc.fin []]] [Orc.bool false, Orc.bool false, Orc.bool false, Orc.fin []]] (finK Try.prog [ResultVar.tmp 4] [] (AV.sv (lb (decide (a = b))))) = ((decide (Outcome.status a =
 Outcome.status b) = true → (decide (Array.toList (ByteArray.data (Outcome.text a)) = Array.toList (ByteArray.data (Outcome.text b))) = true → CallOK Try.prog 54 [] [ll (List.map
 strC (Outcome.output a)), ll (List.map strC (Outcome.output b))] [] (AV.sv (lb (decide (Outcome.output a = Outcome.output b)))) ∧ (decide (Outcome.output a = Outcome.output b) =
 true → (decide (Outcome.ticks a = Outcome.ticks b) = true → ObsEq [] [] ∧ AV.sv (lb (decide (Outcome.made a = Outcome.made b))) = AV.sv (lb (decide (a = b)))) ∧ (decide
 (Outcome.ticks a = Outcome.ticks b) = false → ObsEq [] [] ∧ AV.sv (lb false) = AV.sv (lb (decide (a = b))))) ∧ (decide (Outcome.output a = Outcome.output b) = false → false =
 false ∧ ObsEq [] [] ∧ AV.sv (lb false) = AV.sv (lb (decide (a = b))))) ∧ (decide (Array.toList (ByteArray.data (Outcome.text a)) = Array.toList (ByteArray.data (Outcome.text b)))
 = false → false = false ∧ false = false ∧ ObsEq [] [] ∧ AV.sv (lb false) = AV.sv (lb (decide (a = b))))) ∧ (decide (Outcome.status a = Outcome.status b) = false → false = false ∧
 false = false ∧ false = false ∧ ObsEq [] [] ∧ AV.sv (lb false) = AV.sv (lb (decide (a = b))))) := by kernel_rfl
theorem c24 (a b : Outcome)  : CallOK Try.prog 24 [] [outcomeA a, outcomeA b] [] (.sv (lb (decide (a = b)))) := by
  refine CallOK.ofRun wide (run_c24 a b) Try.call24 Try.func24 rfl rfl rfl ?_
  with_reducible repeat' (first | apply And.intro | (intro; skip) | apply c54)
  all_goals (try simp only [size_list, List.length_map, Int.toNat_natCast, rng64, obsEq_iff, List.length_append, List.length_replicate, fillTo_len, decide_eq_true_eq, decide_eq_false_iff_not, ne_eq, lb_inj, li_inj, ls_inj, mk_toArray, tx_mkS, mkS_inj, size_mkS] at *)
  all_goals (try (first | with_reducible rfl | omega | assumption | exact getC (by first | omega | (simp only [fillTo_len]; omega) | grind) rfl | exact outcomeGet (by first | omega | (simp only [fillTo_len]; omega) | grind) | exact datumGet (by first | omega | (simp only [fillTo_len]; omega) | grind) | exact coreGet (by first | omega | (simp only [fillTo_len]; omega) | grind) | exact congrArg (Ob.arr true _) (fill_step (by first | omega | (simp only [fillTo_len]; omega) | grind) (by first | rfl | exact outcomeC_eq _ | exact datumC_eq _ | exact coreC_eq _)) | exact congrArg (Ob.arr true _) (fill_init (by first | rfl | exact outcomeC_eq _ | exact datumC_eq _ | exact coreC_eq _)) | grind [Outcome, bytes_ext]))


def Tc26La (a : Outcome) (b : Outcome) (x0 : SV) : St := St.mk (regsOf 59 [(2, AV.sv (SV.one (AC.ptr 0 0))), (3, AV.sv (SV.one (AC.ptr 1 0))), (43, AV.sv (li (↑(List.length
 (List.map strC (Outcome.output a))) : Int))), (44, AV.sv x0)]) [Ob.box (vals (outcomeF a)), Ob.box (vals (outcomeF b))] 0 
def Lc26La (a : Outcome) (b : Outcome) (k : Nat) : St := Tc26La a b (li (↑k : Int)) 
def Ic26La (a : Outcome) (b : Outcome) : Nat → St → Prop := Head (Lc26La a b) (fun k => k ≤ List.length (Outcome.output a) ∧ List.length (Outcome.output a) ≤ 9223372036854775807 ∧
 List.length (Outcome.output a) = List.length (Outcome.output b) ∧ List.take k (Outcome.output a) = List.take k (Outcome.output b)) fun k => List.length (Outcome.output a) - k 
def W0c26La (a : Outcome) (b : Outcome) : St := St.mk (regsOf 59 []) [] 0 
def W1c26La (a : Outcome) (b : Outcome) (x0 : SV) : St := St.mk (regsOf 59 [(4, AV.sv x0)]) [] 0 
def Yc26La (a : Outcome) (b : Outcome) : List (Prop × AEx × St) := [(Outcome.output a = Outcome.output b, AEx.exit 0, W0c26La a b), (Outcome.output a ≠ Outcome.output b, AEx.ret,
 W1c26La a b (lb false))]
theorem Hc26La {a : Outcome} {b : Outcome} {k : Nat} {m : Nat} (h : (fun k => k ≤ List.length (Outcome.output a) ∧ List.length (Outcome.output a) ≤ 9223372036854775807 ∧
 List.length (Outcome.output a) = List.length (Outcome.output b) ∧ List.take k (Outcome.output a) = List.take k (Outcome.output b)) k) (hm : (fun k => List.length (Outcome.output
 a) - k) k = m) : Ic26La a b m (Lc26La a b k) := hm ▸ Head.mk h
theorem Ec26La {a : Outcome} {b : Outcome} {k : Nat} {x0 : SV} (h0 : x0 = (li (↑k : Int))) : Tc26La a b x0 = Lc26La a b k := by (rw [h0]; rfl)
theorem run_c26La (a : Outcome) (b : Outcome) (k : Nat) : aexec Try.prog (loopAt Try.f26 0) (Lc26La a b k) [Orc.br [Orc.draw [], Orc.cells (strC (List.getD (Outcome.output a) k
 default)), Orc.cells (strC (List.getD (Outcome.output b) k default)), Orc.br [Orc.ghost (Ghost.sel [] [4]), Orc.out 1] [Orc.ghost (Ghost.sel [0, 1] [2, 3, 43, 44]), Orc.goto
 (List.length (Outcome.output a) - (k + 1)) (Lc26La a b (k + 1))]] [Orc.ghost (Ghost.sel [] []), Orc.out 0]] (loopK (Ic26La a b) (Yc26La a b) (List.length (Outcome.output a) - k))
 = ((decide ((↑k : Int) < (↑(List.length (List.map strC (Outcome.output a))) : Int)) = true → (0 ≤ (↑k : Int) ∧ (List.map strC (Outcome.output a))[Int.toNat (↑k : Int)]? = some [cS
 (List.getD (Outcome.output a) k default)]) ∧ (0 ≤ (↑k : Int) ∧ (List.map strC (Outcome.output b))[Int.toNat (↑k : Int)]? = some [cS (List.getD (Outcome.output b) k default)]) ∧
 (decide (Array.toList (ByteArray.data (List.getD (Outcome.output a) k default)) ≠ Array.toList (ByteArray.data (List.getD (Outcome.output b) k default))) = true → Outcome.output a
 ≠ Outcome.output b ∧ W1c26La a b (lb false) = W1c26La a b (lb false)) ∧ (decide (Array.toList (ByteArray.data (List.getD (Outcome.output a) k default)) ≠ Array.toList
 (ByteArray.data (List.getD (Outcome.output b) k default))) = false → rng IntKind.i64 ((↑k : Int) + 1) ∧ List.length (Outcome.output a) - (k + 1) < List.length (Outcome.output a) -
 k ∧ Tc26La a b (li ((↑k : Int) + 1)) = Lc26La a b (k + 1) ∧ Ic26La a b (List.length (Outcome.output a) - (k + 1)) (Lc26La a b (k + 1)))) ∧ (decide ((↑k : Int) < (↑(List.length
 (List.map strC (Outcome.output a))) : Int)) = false → Outcome.output a = Outcome.output b ∧ W0c26La a b = W0c26La a b)) := by kernel_rfl
theorem Sc26La (a : Outcome) (b : Outcome)  : LoopSem Try.prog (loopAt Try.f26 0) (Ic26La a b) (Yc26La a b) := by
  refine LoopSem.ofHead wide fun k h => ⟨_, _, run_c26La a b k, ?_⟩
  with_reducible repeat' (first | apply And.intro | (intro; skip) | apply Hc26La | apply Ec26La)
  all_goals (try simp only [size_list, List.length_map, Int.toNat_natCast, rng64, obsEq_iff, List.length_append, List.length_replicate, fillTo_len, decide_eq_true_eq, decide_eq_false_iff_not, ne_eq, lb_inj, li_inj, ls_inj, mk_toArray, tx_mkS, mkS_inj, size_mkS] at *)
  all_goals (try (first | with_reducible rfl | omega | assumption | exact getC (by first | omega | (simp only [fillTo_len]; omega) | grind) rfl | exact outcomeGet (by first | omega | (simp only [fillTo_len]; omega) | grind) | exact datumGet (by first | omega | (simp only [fillTo_len]; omega) | grind) | exact coreGet (by first | omega | (simp only [fillTo_len]; omega) | grind) | exact congrArg (Ob.arr true _) (fill_step (by first | omega | (simp only [fillTo_len]; omega) | grind) (by first | rfl | exact outcomeC_eq _ | exact datumC_eq _ | exact coreC_eq _)) | exact congrArg (Ob.arr true _) (fill_init (by first | rfl | exact outcomeC_eq _ | exact datumC_eq _ | exact coreC_eq _)) | grind [take_eq, bytes_ext]))
theorem run_c26 (a : Outcome) (b : Outcome) : aexec Try.prog (Option.getD (Func.body Try.f26) Code.skip) (entry [] [outcomeA a, outcomeA b] 59) [Orc.br [Orc.bool true, Orc.bool
 true, Orc.bool true, Orc.bool true, Orc.fin []] [Orc.br [Orc.bool true, Orc.bool true, Orc.bool true, Orc.fin []] [Orc.br [Orc.bool true, Orc.bool true, Orc.fin []] [Orc.br
 [Orc.bool true, Orc.fin []] [Orc.br [Orc.fin []] [Orc.ghost (Ghost.sel [0, 1] [2, 3, 43, 44]), Orc.loop (List.length (Outcome.output a) - 0) (Lc26La a b 0) (Ic26La a b)
 [(Outcome.output a = Outcome.output b, AEx.exit 0, W0c26La a b, [Orc.fin []]), (Outcome.output a ≠ Outcome.output b, AEx.ret, W1c26La a b (lb false), [Orc.fin []])]]]]]]] (finK
 Try.prog [ResultVar.tmp 4] [] (AV.sv (lb (decide (a = b))))) = ((decide (Outcome.status a ≠ Outcome.status b) = true → true = true ∧ true = true ∧ true = true ∧ true = true ∧
 ObsEq [] [] ∧ AV.sv (lb false) = AV.sv (lb (decide (a = b)))) ∧ (decide (Outcome.status a ≠ Outcome.status b) = false → (decide (Array.toList (ByteArray.data (Outcome.text a)) ≠
 Array.toList (ByteArray.data (Outcome.text b))) = true → true = true ∧ true = true ∧ true = true ∧ ObsEq [] [] ∧ AV.sv (lb false) = AV.sv (lb (decide (a = b)))) ∧ (decide
 (Array.toList (ByteArray.data (Outcome.text a)) ≠ Array.toList (ByteArray.data (Outcome.text b))) = false → (decide (Outcome.ticks a ≠ Outcome.ticks b) = true → true = true ∧ true
 = true ∧ ObsEq [] [] ∧ AV.sv (lb false) = AV.sv (lb (decide (a = b)))) ∧ (decide (Outcome.ticks a ≠ Outcome.ticks b) = false → (decide (Outcome.made a ≠ Outcome.made b) = true →
 true = true ∧ ObsEq [] [] ∧ AV.sv (lb false) = AV.sv (lb (decide (a = b)))) ∧ (decide (Outcome.made a ≠ Outcome.made b) = false → List.length (List.map strC (Outcome.output a)) ≤
 9223372036854775807 → List.length (List.map strC (Outcome.output b)) ≤ 9223372036854775807 → (decide ((↑(List.length (List.map strC (Outcome.output a))) : Int) ≠ (↑(List.length
 (List.map strC (Outcome.output b))) : Int)) = true → ObsEq [] [] ∧ AV.sv (lb false) = AV.sv (lb (decide (a = b)))) ∧ (decide ((↑(List.length (List.map strC (Outcome.output a))) :
 Int) ≠ (↑(List.length (List.map strC (Outcome.output b))) : Int)) = false → List.length (List.map strC (Outcome.output a)) ≤ 9223372036854775807 → Tc26La a b (li 0) = Lc26La a b 0
 ∧ Ic26La a b (List.length (Outcome.output a) - 0) (Lc26La a b 0) ∧ LoopSem Try.prog (loopAt Try.f26 0) (Ic26La a b) (Yc26La a b) ∧ (Outcome.output a = Outcome.output b → ObsEq []
 [] ∧ AV.sv (lb true) = AV.sv (lb (decide (a = b)))) ∧ ((Outcome.output a = Outcome.output b → False) → ObsEq [] [] ∧ AV.sv (lb false) = AV.sv (lb (decide (a = b)))) ∧ True))))))
 := by kernel_rfl
theorem c26 (a b : Outcome)  : CallOK Try.prog 26 [] [outcomeA a, outcomeA b] [] (.sv (lb (decide (a = b)))) := by
  refine CallOK.ofRun wide (run_c26 a b) Try.call26 Try.func26 rfl rfl rfl ?_
  with_reducible repeat' (first | apply And.intro | (intro; skip) | apply Hc26La | apply Ec26La | apply Sc26La)
  all_goals (try simp only [size_list, List.length_map, Int.toNat_natCast, rng64, obsEq_iff, List.length_append, List.length_replicate, fillTo_len, decide_eq_true_eq, decide_eq_false_iff_not, ne_eq, lb_inj, li_inj, ls_inj, mk_toArray, tx_mkS, mkS_inj, size_mkS] at *)
  all_goals (try (first | with_reducible rfl | omega | assumption | exact getC (by first | omega | (simp only [fillTo_len]; omega) | grind) rfl | exact outcomeGet (by first | omega | (simp only [fillTo_len]; omega) | grind) | exact datumGet (by first | omega | (simp only [fillTo_len]; omega) | grind) | exact coreGet (by first | omega | (simp only [fillTo_len]; omega) | grind) | exact congrArg (Ob.arr true _) (fill_step (by first | omega | (simp only [fillTo_len]; omega) | grind) (by first | rfl | exact outcomeC_eq _ | exact datumC_eq _ | exact coreC_eq _)) | exact congrArg (Ob.arr true _) (fill_init (by first | rfl | exact outcomeC_eq _ | exact datumC_eq _ | exact coreC_eq _)) | grind [Outcome, bytes_ext]))


theorem run_c7 (a : Outcome) (b : Outcome) : aexec Try.prog (Option.getD (Func.body Try.f7) Code.skip) (entry [] [outcomeA a, outcomeA b] 45) [Orc.call [Mode.rd, Mode.rd] [] (AV.sv
 (li (sz (wO a) 1048576))), Orc.br [Orc.fin []] [Orc.call [Mode.rd, Mode.rd] [] (AV.sv (li (sz (wO b) (sz (wO a) 1048576)))), Orc.br [Orc.fin []] [Orc.draw [], Orc.call [Mode.rd]
 [Ob.arr true 1 (List.map strC (Outcome.output a))] (AV.sv (SV.agg [vI (Outcome.status a), vS (Outcome.text a), AC.ref 0, vI (Outcome.ticks a), vI (Outcome.made a)])), Orc.call
 [Mode.rd] [Ob.arr true 1 (List.map strC (Outcome.output b))] (AV.sv (SV.agg [vI (Outcome.status b), vS (Outcome.text b), AC.ref 0, vI (Outcome.ticks b), vI (Outcome.made b)])),
 Orc.call [Mode.rd, Mode.rd] [] (AV.sv (lb (decide (a = b)))), Orc.call [Mode.rd] [Ob.arr true 1 (List.map strC (Outcome.output a))] (AV.sv (SV.agg [vI (Outcome.status a), vS
 (Outcome.text a), AC.ref 0, vI (Outcome.ticks a), vI (Outcome.made a)])), Orc.call [Mode.rd] [Ob.arr true 1 (List.map strC (Outcome.output b))] (AV.sv (SV.agg [vI (Outcome.status
 b), vS (Outcome.text b), AC.ref 0, vI (Outcome.ticks b), vI (Outcome.made b)])), Orc.call [Mode.rd, Mode.rd] [] (AV.sv (lb (decide (a = b)))), Orc.br [Orc.fin []] [Orc.draw [],
 Orc.call [Mode.rd] [Ob.arr true 1 (List.map strC (Outcome.output a))] (AV.sv (SV.agg [vI (Outcome.status a), vS (Outcome.text a), AC.ref 0, vI (Outcome.ticks a), vI (Outcome.made
 a)])), Orc.call [Mode.rd, Mode.rd] [] (AV.sv (lb (decide (a = a)))), Orc.br [Orc.fin []] [Orc.draw [], Orc.call [Mode.rd] [Ob.arr true 1 (List.map strC (Outcome.output b))] (AV.sv
 (SV.agg [vI (Outcome.status b), vS (Outcome.text b), AC.ref 0, vI (Outcome.ticks b), vI (Outcome.made b)])), Orc.call [Mode.rd, Mode.rd] [] (AV.sv (lb (decide (b = b)))), Orc.br
 [Orc.fin []] [Orc.fin []]]]]]] (finK Try.prog [ResultVar.tmp 4] [] (AV.sv (lb true))) = (CallOK Try.prog 23 [] [outcomeA a, li 1048576] [] (AV.sv (li (sz (wO a) 1048576))) ∧
 (decide (sz (wO a) 1048576 < 0) = true → ObsEq [] [] ∧ AV.sv (lb true) = AV.sv (lb true)) ∧ (decide (sz (wO a) 1048576 < 0) = false → CallOK Try.prog 23 [] [outcomeA b, li (sz (wO
 a) 1048576)] [] (AV.sv (li (sz (wO b) (sz (wO a) 1048576)))) ∧ (decide (sz (wO b) (sz (wO a) 1048576) < 0) = true → ObsEq [] [] ∧ AV.sv (lb true) = AV.sv (lb true)) ∧ (decide (sz
 (wO b) (sz (wO a) 1048576) < 0) = false → CallOK Try.prog 25 [] [outcomeA a] [Ob.arr true 1 (List.map strC (Outcome.output a))] (AV.sv (SV.agg [vI (Outcome.status a), vS
 (Outcome.text a), AC.ref 0, vI (Outcome.ticks a), vI (Outcome.made a)])) ∧ CallOK Try.prog 25 [] [outcomeA b] [Ob.arr true 1 (List.map strC (Outcome.output b))] (AV.sv (SV.agg [vI
 (Outcome.status b), vS (Outcome.text b), AC.ref 0, vI (Outcome.ticks b), vI (Outcome.made b)])) ∧ CallOK Try.prog 24 [] [outcomeA a, outcomeA b] [] (AV.sv (lb (decide (a = b)))) ∧
 CallOK Try.prog 25 [] [outcomeA a] [Ob.arr true 1 (List.map strC (Outcome.output a))] (AV.sv (SV.agg [vI (Outcome.status a), vS (Outcome.text a), AC.ref 0, vI (Outcome.ticks a),
 vI (Outcome.made a)])) ∧ CallOK Try.prog 25 [] [outcomeA b] [Ob.arr true 1 (List.map strC (Outcome.output b))] (AV.sv (SV.agg [vI (Outcome.status b), vS (Outcome.text b), AC.ref
 0, vI (Outcome.ticks b), vI (Outcome.made b)])) ∧ CallOK Try.prog 26 [] [outcomeA a, outcomeA b] [] (AV.sv (lb (decide (a = b)))) ∧ (decide (decide (a = b) ≠ decide (a = b)) =
 true → ObsEq [] [] ∧ AV.sv (lb false) = AV.sv (lb true)) ∧ (decide (decide (a = b) ≠ decide (a = b)) = false → CallOK Try.prog 25 [] [outcomeA a] [Ob.arr true 1 (List.map strC
 (Outcome.output a))] (AV.sv (SV.agg [vI (Outcome.status a), vS (Outcome.text a), AC.ref 0, vI (Outcome.ticks a), vI (Outcome.made a)])) ∧ CallOK Try.prog 27 [] [outcomeA a,
 outcomeA a] [] (AV.sv (lb (decide (a = a)))) ∧ ((!decide (a = a)) = true → ObsEq [] [] ∧ AV.sv (lb false) = AV.sv (lb true)) ∧ ((!decide (a = a)) = false → CallOK Try.prog 25 []
 [outcomeA b] [Ob.arr true 1 (List.map strC (Outcome.output b))] (AV.sv (SV.agg [vI (Outcome.status b), vS (Outcome.text b), AC.ref 0, vI (Outcome.ticks b), vI (Outcome.made b)]))
 ∧ CallOK Try.prog 27 [] [outcomeA b, outcomeA b] [] (AV.sv (lb (decide (b = b)))) ∧ ((!decide (b = b)) = true → ObsEq [] [] ∧ AV.sv (lb false) = AV.sv (lb true)) ∧ ((!decide (b =
 b)) = false → ObsEq [] [] ∧ AV.sv (lb true) = AV.sv (lb true))))))) := by kernel_rfl
theorem c7 (a b : Outcome)  : CallOK Try.prog 7 [] [outcomeA a, outcomeA b] [] (.sv (lb true)) := by
  refine CallOK.ofRun wide (run_c7 a b) Try.call7 Try.func7 rfl rfl rfl ?_
  with_reducible repeat' (first | apply And.intro | (intro; skip) | apply c23 | apply c25 | apply c24 | apply c26 | apply c27)
  all_goals (try simp only [size_list, List.length_map, Int.toNat_natCast, rng64, obsEq_iff, List.length_append, List.length_replicate, fillTo_len, decide_eq_true_eq, decide_eq_false_iff_not, ne_eq, lb_inj, li_inj, ls_inj, mk_toArray, tx_mkS, mkS_inj, size_mkS] at *)
  all_goals (try (first | with_reducible rfl | omega | assumption | exact getC (by first | omega | (simp only [fillTo_len]; omega) | grind) rfl | exact outcomeGet (by first | omega | (simp only [fillTo_len]; omega) | grind) | exact datumGet (by first | omega | (simp only [fillTo_len]; omega) | grind) | exact coreGet (by first | omega | (simp only [fillTo_len]; omega) | grind) | exact congrArg (Ob.arr true _) (fill_step (by first | omega | (simp only [fillTo_len]; omega) | grind) (by first | rfl | exact outcomeC_eq _ | exact datumC_eq _ | exact coreC_eq _)) | exact congrArg (Ob.arr true _) (fill_init (by first | rfl | exact outcomeC_eq _ | exact datumC_eq _ | exact coreC_eq _)) | grind [sz]))

end Go.Proofs.Ytjaahbkdpodbbaa
