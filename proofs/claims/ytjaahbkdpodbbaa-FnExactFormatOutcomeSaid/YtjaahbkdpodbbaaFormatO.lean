/- The contracts of FormatOutcome (both packages) and of the law that compares them. No condition. -/
import Derived.Test.YtjaahbkdpodbbaaOutcome
import Derived.Test.YtjaahbkdpodbbaaCodeText
namespace Go.Proofs.Ytjaahbkdpodbbaa
open Go Go.Proofs.Ytjaahbkdpodbbaa.Ab
set_option linter.unusedVariables false
set_option linter.unusedSimpArgs false

theorem sum_map_size (L : List ByteArray) : (L.map ByteArray.size).sum = sumBy ByteArray.size L := by
  induction L with
  | nil => rfl
  | cons x r ih => simp only [List.map_cons, List.sum_cons, sumBy, ih]
theorem jn_len' (b : List UInt8) (L : List ByteArray) : (jn b L).length ≤ sumBy ByteArray.size L + L.length * b.length := by rw [← sum_map_size]; exact jn_len b L
theorem sumBy_take_le' (L : List ByteArray) (k : Nat) : sumBy ByteArray.size (L.take k) ≤ sumBy ByteArray.size L := by
  have := sumBy_append ByteArray.size (L.take k) (L.drop k)
  rw [List.take_append_drop] at this; omega
theorem jn_take (b : List UInt8) (L : List ByteArray) (k : Nat) : (jn b (L.take k)).length ≤ sumBy ByteArray.size L + L.length * b.length := by
  have h1 := jn_len' b (L.take k)
  have h2 := sumBy_take_le' L k
  have h3 : (L.take k).length ≤ L.length := by rw [List.length_take]; exact Nat.min_le_right _ _
  have h4 := Nat.mul_le_mul_right b.length h3
  omega

theorem jn_step (b : List UInt8) {L : List ByteArray} {k : Nat} (h : k < L.length) : jn b (L.take (k + 1)) = if k = 0 then tx (L.getD k default) else jn b (L.take k) ++ (b ++ tx (L.getD k default)) := by
  rw [take_get h, jn_snoc]
  cases k with
  | zero => simp
  | succ k => rw [if_neg, if_neg (by omega)]; intro e; have := congrArg List.length e; rw [List.length_take, List.length_nil] at this; omega
def after : List UInt8 := [32, 97, 102, 116, 101, 114, 32]
def pre (n : Int) : List UInt8 := if n = 1 then [118, 97, 108, 117, 101, 32] else if n = 2 then [101, 114, 114, 111, 114, 58, 32] else if n = 3 then [111, 117, 116, 32, 111, 102, 32, 116, 105, 99, 107, 115] else [111, 117, 116, 32, 111, 102, 32, 109, 101, 109, 111, 114, 121]
theorem pre_len (n : Int) : (pre n).length ≤ 100 := by unfold pre; split <;> (try split) <;> (try split) <;> decide
def fmtO (o : Outcome) : List UInt8 := if 1 ≤ o.status ∧ o.status ≤ 4 then pre o.status ++ (tx o.text ++ if o.output = [] then [] else after ++ jn [32] o.output) else []

def Tc_l1JoinLa (L : List ByteArray) (b : ByteArray) (x0 : SV) (x1 : SV) : St := St.mk (regsOf 25 [(1, AV.sv (ls b)), (5, AV.sv x1), (8, AV.sv (ll (List.map strC L))), (9, AV.sv
 (li (↑(List.length (List.map strC L)) : Int))), (10, AV.sv x0)]) [] 0 
def Lc_l1JoinLa (L : List ByteArray) (b : ByteArray) (k : Nat) : St := Tc_l1JoinLa L b (li (↑k : Int)) (ls (mkS (jn (tx b) (List.take k L)))) 
def Ic_l1JoinLa (L : List ByteArray) (b : ByteArray) : Nat → St → Prop := Head (Lc_l1JoinLa L b) (fun k => k ≤ List.length L ∧ List.length L ≤ 9223372036854775807) fun k =>
 List.length L - k 
def W0c_l1JoinLa (L : List ByteArray) (b : ByteArray) (x0 : SV) : St := St.mk (regsOf 25 [(5, AV.sv x0)]) [] 0 
def Yc_l1JoinLa (L : List ByteArray) (b : ByteArray) : List (Prop × AEx × St) := [(True, AEx.exit 0, W0c_l1JoinLa L b (ls (mkS (jn (tx b) L))))]
theorem Hc_l1JoinLa {L : List ByteArray} {b : ByteArray} {k : Nat} {m : Nat} (h : (fun k => k ≤ List.length L ∧ List.length L ≤ 9223372036854775807) k) (hm : (fun k => List.length
 L - k) k = m) : Ic_l1JoinLa L b m (Lc_l1JoinLa L b k) := hm ▸ Head.mk h
theorem Ec_l1JoinLa {L : List ByteArray} {b : ByteArray} {k : Nat} {x0 : SV} {x1 : SV} (h0 : x0 = (li (↑k : Int))) (h1 : x1 = (ls (mkS (jn (tx b) (List.take k L))))) : Tc_l1JoinLa
 L b x0 x1 = Lc_l1JoinLa L b k := by (rw [h0, h1]; rfl)
theorem run_c_l1JoinLa (L : List ByteArray) (b : ByteArray) (k : Nat) : aexec Try.prog (loopAt Try.f57 0) (Lc_l1JoinLa L b k) [Orc.br [Orc.cells (strC (List.getD L k default)),
 Orc.br [Orc.ghost (Ghost.sel [] [1, 5, 8, 9, 10]), Orc.goto (List.length L - (k + 1)) (Lc_l1JoinLa L b (k + 1))] [Orc.ghost (Ghost.sel [] [1, 5, 8, 9, 10]), Orc.goto (List.length
 L - (k + 1)) (Lc_l1JoinLa L b (k + 1))]] [Orc.ghost (Ghost.sel [] [5]), Orc.out 0]] (loopK (Ic_l1JoinLa L b) (Yc_l1JoinLa L b) (List.length L - k)) = ((decide ((↑k : Int) <
 (↑(List.length (List.map strC L)) : Int)) = true → (0 ≤ (↑k : Int) ∧ (List.map strC L)[Int.toNat (↑k : Int)]? = some [cS (List.getD L k default)]) ∧ (decide (0 < (↑k : Int)) =
 true → List.length (jn (tx b) (List.take k L)) + List.length (Array.toList (ByteArray.data b)) ≤ 9223372036854775807 ∧ List.length (jn (tx b) (List.take k L) ++ Array.toList
 (ByteArray.data b)) + List.length (Array.toList (ByteArray.data (List.getD L k default))) ≤ 9223372036854775807 ∧ rng IntKind.i64 ((↑k : Int) + 1) ∧ List.length L - (k + 1) <
 List.length L - k ∧ Tc_l1JoinLa L b (li ((↑k : Int) + 1)) (ls (ByteArray.mk (List.toArray (jn (tx b) (List.take k L) ++ Array.toList (ByteArray.data b) ++ Array.toList
 (ByteArray.data (List.getD L k default)))))) = Lc_l1JoinLa L b (k + 1) ∧ Ic_l1JoinLa L b (List.length L - (k + 1)) (Lc_l1JoinLa L b (k + 1))) ∧ (decide (0 < (↑k : Int)) = false →
 List.length (jn (tx b) (List.take k L)) + List.length (Array.toList (ByteArray.data (List.getD L k default))) ≤ 9223372036854775807 ∧ rng IntKind.i64 ((↑k : Int) + 1) ∧
 List.length L - (k + 1) < List.length L - k ∧ Tc_l1JoinLa L b (li ((↑k : Int) + 1)) (ls (ByteArray.mk (List.toArray (jn (tx b) (List.take k L) ++ Array.toList (ByteArray.data
 (List.getD L k default)))))) = Lc_l1JoinLa L b (k + 1) ∧ Ic_l1JoinLa L b (List.length L - (k + 1)) (Lc_l1JoinLa L b (k + 1)))) ∧ (decide ((↑k : Int) < (↑(List.length (List.map
 strC L)) : Int)) = false → True ∧ W0c_l1JoinLa L b (ls (mkS (jn (tx b) (List.take k L)))) = W0c_l1JoinLa L b (ls (mkS (jn (tx b) L))))) := by kernel_rfl
theorem Sc_l1JoinLa (L : List ByteArray) (b : ByteArray) (h : sumBy ByteArray.size L + List.length L * ByteArray.size b ≤ 1099511627776) (hb : ByteArray.size b ≤ 1099511627776)  :
 LoopSem Try.prog (loopAt Try.f57 0) (Ic_l1JoinLa L b) (Yc_l1JoinLa L b) := by
  refine LoopSem.ofHead wide fun k h => ⟨_, _, run_c_l1JoinLa L b k, ?_⟩
  have h1 := jn_take (tx b) L k
  have h2 := @sumBy_mem _ ByteArray.size L (L.getD k default)
  rw [tx_len] at h1
  with_reducible repeat' (first | apply And.intro | (intro; skip) | apply Hc_l1JoinLa | apply Ec_l1JoinLa)
  all_goals (try simp only [size_list, List.length_map, Int.toNat_natCast, rng64, obsEq_iff, List.length_append, List.length_replicate, fillTo_len, decide_eq_true_eq, decide_eq_false_iff_not, ne_eq, lb_inj, li_inj, ls_inj, mk_toArray, tx_mkS, mkS_inj, size_mkS] at *)
  all_goals (try (first | with_reducible rfl | omega | assumption | exact getC (by first | omega | (simp only [fillTo_len]; omega) | grind) rfl | exact outcomeGet (by first | omega | (simp only [fillTo_len]; omega) | grind) | exact datumGet (by first | omega | (simp only [fillTo_len]; omega) | grind) | exact coreGet (by first | omega | (simp only [fillTo_len]; omega) | grind) | exact congrArg (Ob.arr true _) (fill_step (by first | omega | (simp only [fillTo_len]; omega) | grind) (by first | rfl | exact outcomeC_eq _ | exact datumC_eq _ | exact coreC_eq _)) | exact congrArg (Ob.arr true _) (fill_init (by first | rfl | exact outcomeC_eq _ | exact datumC_eq _ | exact coreC_eq _)) | grind [jn_step, getD_mem', jn, List.append_assoc]))
theorem run_c_l1Join (L : List ByteArray) (b : ByteArray) : aexec Try.prog (Option.getD (Func.body Try.f57) Code.skip) (entry [] [ll (List.map strC L), ls b] 25) [Orc.ghost
 (Ghost.sel [] [1, 5, 8, 9, 10]), Orc.loop (List.length L - 0) (Lc_l1JoinLa L b 0) (Ic_l1JoinLa L b) [(True, AEx.exit 0, W0c_l1JoinLa L b (ls (mkS (jn (tx b) L))), [Orc.fin []])]]
 (finK Try.prog [ResultVar.tmp 4] [] (AV.sv (ls (mkS (jn (tx b) L))))) = (List.length (List.map strC L) ≤ 9223372036854775807 → Tc_l1JoinLa L b (li 0) (ls (ByteArray.mk #[])) =
 Lc_l1JoinLa L b 0 ∧ Ic_l1JoinLa L b (List.length L - 0) (Lc_l1JoinLa L b 0) ∧ LoopSem Try.prog (loopAt Try.f57 0) (Ic_l1JoinLa L b) (Yc_l1JoinLa L b) ∧ (True → ObsEq [] [] ∧ AV.sv
 (ls (mkS (jn (tx b) L))) = AV.sv (ls (mkS (jn (tx b) L)))) ∧ True) := by kernel_rfl
theorem c_l1Join (L : List ByteArray) (b : ByteArray) (h : sumBy ByteArray.size L + L.length * b.size ≤ 1099511627776) (hb : b.size ≤ 1099511627776)  : CallOK Try.prog 57 [] [ll
 (L.map strC), ls b] [] (.sv (ls (mkS (jn (tx b) L)))) := by
  refine CallOK.ofRun wide (run_c_l1Join L b) Try.call57 Try.func57 rfl rfl rfl ?_
  with_reducible repeat' (first | apply And.intro | (intro; skip) | apply Hc_l1JoinLa | apply Ec_l1JoinLa | apply Sc_l1JoinLa)
  all_goals (try simp only [size_list, List.length_map, Int.toNat_natCast, rng64, obsEq_iff, List.length_append, List.length_replicate, fillTo_len, decide_eq_true_eq, decide_eq_false_iff_not, ne_eq, lb_inj, li_inj, ls_inj, mk_toArray, tx_mkS, mkS_inj, size_mkS] at *)
  all_goals (try (first | with_reducible rfl | omega | assumption | exact getC (by first | omega | (simp only [fillTo_len]; omega) | grind) rfl | exact outcomeGet (by first | omega | (simp only [fillTo_len]; omega) | grind) | exact datumGet (by first | omega | (simp only [fillTo_len]; omega) | grind) | exact coreGet (by first | omega | (simp only [fillTo_len]; omega) | grind) | exact congrArg (Ob.arr true _) (fill_step (by first | omega | (simp only [fillTo_len]; omega) | grind) (by first | rfl | exact outcomeC_eq _ | exact datumC_eq _ | exact coreC_eq _)) | exact congrArg (Ob.arr true _) (fill_init (by first | rfl | exact outcomeC_eq _ | exact datumC_eq _ | exact coreC_eq _)) | grind [jn]))


theorem run_c_sFormatO (o : Outcome) : aexec Try.prog (Option.getD (Func.body Try.f28) Code.skip) (entry [] [outcomeA o] 28) [Orc.call [Mode.rd, Mode.rd, Mode.rd] [] (AV.sv (lb
 (decide (1 ≤ Outcome.status o) && decide (Outcome.status o ≤ 4)))), Orc.br [Orc.fin []] [Orc.draw [], Orc.cells (strC (List.getD [ByteArray.mk #[118, 97, 108, 117, 101, 32],
 ByteArray.mk #[101, 114, 114, 111, 114, 58, 32], ByteArray.mk #[111, 117, 116, 32, 111, 102, 32, 116, 105, 99, 107, 115], ByteArray.mk #[111, 117, 116, 32, 111, 102, 32, 109, 101,
 109, 111, 114, 121]] (Int.toNat (Outcome.status o - 1)) ByteArray.empty)), Orc.br [Orc.call [Mode.rd, Mode.rd] [] (AV.sv (ls (mkS (jn (tx (ByteArray.mk #[32])) (Outcome.output
 o))))), Orc.fin []] [Orc.fin []]]] (finK Try.prog [ResultVar.tmp 2] [] (AV.sv (ls (mkS (fmtO o))))) = (CallOK Try.prog 49 [] [li (Outcome.status o), li 1, li 4] [] (AV.sv (lb
 (decide (1 ≤ Outcome.status o) && decide (Outcome.status o ≤ 4)))) ∧ ((!(decide (1 ≤ Outcome.status o) && decide (Outcome.status o ≤ 4))) = true → ObsEq [] [] ∧ AV.sv (ls
 (ByteArray.mk #[])) = AV.sv (ls (mkS (fmtO o)))) ∧ ((!(decide (1 ≤ Outcome.status o) && decide (Outcome.status o ≤ 4))) = false → rng IntKind.i64 (Outcome.status o - 1) ∧ (0 ≤
 Outcome.status o - 1 ∧ Int.toNat (Outcome.status o - 1) < 4) ∧ [[cS (ByteArray.mk #[118, 97, 108, 117, 101, 32])], [cS (ByteArray.mk #[101, 114, 114, 111, 114, 58, 32])], [cS
 (ByteArray.mk #[111, 117, 116, 32, 111, 102, 32, 116, 105, 99, 107, 115])], [cS (ByteArray.mk #[111, 117, 116, 32, 111, 102, 32, 109, 101, 109, 111, 114, 121])]][Int.toNat
 (Outcome.status o - 1)]? = some [cS (List.getD [ByteArray.mk #[118, 97, 108, 117, 101, 32], ByteArray.mk #[101, 114, 114, 111, 114, 58, 32], ByteArray.mk #[111, 117, 116, 32, 111,
 102, 32, 116, 105, 99, 107, 115], ByteArray.mk #[111, 117, 116, 32, 111, 102, 32, 109, 101, 109, 111, 114, 121]] (Int.toNat (Outcome.status o - 1)) ByteArray.empty)] ∧ List.length
 (Array.toList (ByteArray.data (List.getD [ByteArray.mk #[118, 97, 108, 117, 101, 32], ByteArray.mk #[101, 114, 114, 111, 114, 58, 32], ByteArray.mk #[111, 117, 116, 32, 111, 102,
 32, 116, 105, 99, 107, 115], ByteArray.mk #[111, 117, 116, 32, 111, 102, 32, 109, 101, 109, 111, 114, 121]] (Int.toNat (Outcome.status o - 1)) ByteArray.empty))) + List.length
 (Array.toList (ByteArray.data (Outcome.text o))) ≤ 9223372036854775807 ∧ (List.length (List.map strC (Outcome.output o)) ≤ 9223372036854775807 → (decide (0 < (↑(List.length
 (List.map strC (Outcome.output o))) : Int)) = true → List.length (Array.toList (ByteArray.data (List.getD [ByteArray.mk #[118, 97, 108, 117, 101, 32], ByteArray.mk #[101, 114,
 114, 111, 114, 58, 32], ByteArray.mk #[111, 117, 116, 32, 111, 102, 32, 116, 105, 99, 107, 115], ByteArray.mk #[111, 117, 116, 32, 111, 102, 32, 109, 101, 109, 111, 114, 121]]
 (Int.toNat (Outcome.status o - 1)) ByteArray.empty)) ++ Array.toList (ByteArray.data (Outcome.text o))) + 7 ≤ 9223372036854775807 ∧ CallOK Try.prog 57 [] [ll (List.map strC
 (Outcome.output o)), ls (ByteArray.mk #[32])] [] (AV.sv (ls (mkS (jn (tx (ByteArray.mk #[32])) (Outcome.output o))))) ∧ List.length (Array.toList (ByteArray.data (List.getD
 [ByteArray.mk #[118, 97, 108, 117, 101, 32], ByteArray.mk #[101, 114, 114, 111, 114, 58, 32], ByteArray.mk #[111, 117, 116, 32, 111, 102, 32, 116, 105, 99, 107, 115], ByteArray.mk
 #[111, 117, 116, 32, 111, 102, 32, 109, 101, 109, 111, 114, 121]] (Int.toNat (Outcome.status o - 1)) ByteArray.empty)) ++ Array.toList (ByteArray.data (Outcome.text o)) ++ [32,
 97, 102, 116, 101, 114, 32]) + List.length (jn (tx (ByteArray.mk #[32])) (Outcome.output o)) ≤ 9223372036854775807 ∧ ObsEq [] [] ∧ AV.sv (ls (ByteArray.mk (List.toArray
 (Array.toList (ByteArray.data (List.getD [ByteArray.mk #[118, 97, 108, 117, 101, 32], ByteArray.mk #[101, 114, 114, 111, 114, 58, 32], ByteArray.mk #[111, 117, 116, 32, 111, 102,
 32, 116, 105, 99, 107, 115], ByteArray.mk #[111, 117, 116, 32, 111, 102, 32, 109, 101, 109, 111, 114, 121]] (Int.toNat (Outcome.status o - 1)) ByteArray.empty)) ++ Array.toList
 (ByteArray.data (Outcome.text o)) ++ [32, 97, 102, 116, 101, 114, 32] ++ jn (tx (ByteArray.mk #[32])) (Outcome.output o))))) = AV.sv (ls (mkS (fmtO o)))) ∧ (decide (0 <
 (↑(List.length (List.map strC (Outcome.output o))) : Int)) = false → ObsEq [] [] ∧ AV.sv (ls (ByteArray.mk (List.toArray (Array.toList (ByteArray.data (List.getD [ByteArray.mk
 #[118, 97, 108, 117, 101, 32], ByteArray.mk #[101, 114, 114, 111, 114, 58, 32], ByteArray.mk #[111, 117, 116, 32, 111, 102, 32, 116, 105, 99, 107, 115], ByteArray.mk #[111, 117,
 116, 32, 111, 102, 32, 109, 101, 109, 111, 114, 121]] (Int.toNat (Outcome.status o - 1)) ByteArray.empty)) ++ Array.toList (ByteArray.data (Outcome.text o)))))) = AV.sv (ls (mkS
 (fmtO o))))))) := by kernel_rfl
theorem c_sFormatO (o : Outcome) (h : wO o ≤ 1048576)  : CallOK Try.prog 28 [] [outcomeA o] [] (.sv (ls (mkS (fmtO o)))) := by
  refine CallOK.ofRun wide (run_c_sFormatO o) Try.call28 Try.func28 rfl rfl rfl ?_
  have h1 := jn_len' [32] o.output
  simp only [List.length_cons, List.length_nil] at h1
  obtain ⟨st, t, out, ti, ma⟩ := o
  simp only [wO, wS] at h h1
  by_cases hs : 1 ≤ st ∧ st ≤ 4
  · have : st = 1 ∨ st = 2 ∨ st = 3 ∨ st = 4 := by omega
    rcases this with rfl | rfl | rfl | rfl
    all_goals
      with_reducible repeat' (first | apply And.intro | (intro; skip) | apply c_l1In | apply c_l1Join)
      all_goals (try simp only [size_list, List.length_map, Int.toNat_natCast, rng64, obsEq_iff, List.length_append, List.length_replicate, fillTo_len, decide_eq_true_eq, decide_eq_false_iff_not, ne_eq, lb_inj, li_inj, ls_inj, mk_toArray, tx_mkS, mkS_inj, size_mkS] at *)
      all_goals (try (first | with_reducible rfl | omega | assumption | exact getC (by first | omega | (simp only [fillTo_len]; omega) | grind) rfl | exact outcomeGet (by first | omega | (simp only [fillTo_len]; omega) | grind) | exact datumGet (by first | omega | (simp only [fillTo_len]; omega) | grind) | exact coreGet (by first | omega | (simp only [fillTo_len]; omega) | grind) | exact congrArg (Ob.arr true _) (fill_step (by first | omega | (simp only [fillTo_len]; omega) | grind) (by first | rfl | exact outcomeC_eq _ | exact datumC_eq _ | exact coreC_eq _)) | exact congrArg (Ob.arr true _) (fill_init (by first | rfl | exact outcomeC_eq _ | exact datumC_eq _ | exact coreC_eq _)) | grind))
      all_goals (simp [fmtO, pre, after, size_mkS, tx_mkS] at *)
      all_goals (try omega)
      all_goals grind
  ·
    with_reducible repeat' (first | apply And.intro | (intro; skip) | apply c_l1In | apply c_l1Join)
    all_goals (try simp only [size_list, List.length_map, Int.toNat_natCast, rng64, obsEq_iff, List.length_append, List.length_replicate, fillTo_len, decide_eq_true_eq, decide_eq_false_iff_not, ne_eq, lb_inj, li_inj, ls_inj, mk_toArray, tx_mkS, mkS_inj, size_mkS] at *)
    all_goals (try (first | with_reducible rfl | omega | assumption | exact getC (by first | omega | (simp only [fillTo_len]; omega) | grind) rfl | exact outcomeGet (by first | omega | (simp only [fillTo_len]; omega) | grind) | exact datumGet (by first | omega | (simp only [fillTo_len]; omega) | grind) | exact coreGet (by first | omega | (simp only [fillTo_len]; omega) | grind) | exact congrArg (Ob.arr true _) (fill_step (by first | omega | (simp only [fillTo_len]; omega) | grind) (by first | rfl | exact outcomeC_eq _ | exact datumC_eq _ | exact coreC_eq _)) | exact congrArg (Ob.arr true _) (fill_init (by first | rfl | exact outcomeC_eq _ | exact datumC_eq _ | exact coreC_eq _)) | grind))
    all_goals (simp [fmtO, hs] at *)
    all_goals omega


def Tc_iFormatOLa (o : Outcome) (x0 : SV) (x1 : SV) : St := St.mk (regsOf 39 [(3, AV.sv x1), (21, AV.sv (ll (List.map strC (Outcome.output o)))), (22, AV.sv (li (↑(List.length
 (List.map strC (Outcome.output o))) : Int))), (23, AV.sv x0)]) [] 0 
def Lc_iFormatOLa (o : Outcome) (k : Nat) : St := Tc_iFormatOLa o (li (↑k : Int)) (ls (mkS (pre (Outcome.status o) ++ (tx (Outcome.text o) ++ if k = 0 then [] else after ++ jn [32]
 (List.take k (Outcome.output o)))))) 
def Ic_iFormatOLa (o : Outcome) : Nat → St → Prop := Head (Lc_iFormatOLa o) (fun k => k ≤ List.length (Outcome.output o) ∧ List.length (Outcome.output o) ≤ 9223372036854775807 ∧ 1
 ≤ Outcome.status o ∧ Outcome.status o ≤ 4) fun k => List.length (Outcome.output o) - k 
def W0c_iFormatOLa (o : Outcome) (x0 : SV) : St := St.mk (regsOf 39 [(3, AV.sv x0)]) [] 0 
def Yc_iFormatOLa (o : Outcome) : List (Prop × AEx × St) := [(1 ≤ Outcome.status o ∧ Outcome.status o ≤ 4, AEx.exit 1, W0c_iFormatOLa o (ls (mkS (fmtO o))))]
theorem Hc_iFormatOLa {o : Outcome} {k : Nat} {m : Nat} (h : (fun k => k ≤ List.length (Outcome.output o) ∧ List.length (Outcome.output o) ≤ 9223372036854775807 ∧ 1 ≤
 Outcome.status o ∧ Outcome.status o ≤ 4) k) (hm : (fun k => List.length (Outcome.output o) - k) k = m) : Ic_iFormatOLa o m (Lc_iFormatOLa o k) := hm ▸ Head.mk h
theorem Ec_iFormatOLa {o : Outcome} {k : Nat} {x0 : SV} {x1 : SV} (h0 : x0 = (li (↑k : Int))) (h1 : x1 = (ls (mkS (pre (Outcome.status o) ++ (tx (Outcome.text o) ++ if k = 0 then
 [] else after ++ jn [32] (List.take k (Outcome.output o))))))) : Tc_iFormatOLa o x0 x1 = Lc_iFormatOLa o k := by (rw [h0, h1]; rfl)
theorem run_c_iFormatOLa (o : Outcome) (k : Nat) : aexec Try.prog (loopAt Try.f29 0) (Lc_iFormatOLa o k) [Orc.br [Orc.cells (strC (List.getD (Outcome.output o) k default)), Orc.br
 [Orc.ghost (Ghost.sel [] [3, 21, 22, 23]), Orc.goto (List.length (Outcome.output o) - (k + 1)) (Lc_iFormatOLa o (k + 1))] [Orc.ghost (Ghost.sel [] [3, 21, 22, 23]), Orc.goto
 (List.length (Outcome.output o) - (k + 1)) (Lc_iFormatOLa o (k + 1))]] [Orc.ghost (Ghost.sel [] [3]), Orc.out 0]] (loopK (Ic_iFormatOLa o) (Yc_iFormatOLa o) (List.length
 (Outcome.output o) - k)) = ((decide ((↑k : Int) < (↑(List.length (List.map strC (Outcome.output o))) : Int)) = true → (0 ≤ (↑k : Int) ∧ (List.map strC (Outcome.output
 o))[Int.toNat (↑k : Int)]? = some [cS (List.getD (Outcome.output o) k default)]) ∧ (decide ((↑k : Int) = 0) = true → List.length (pre (Outcome.status o) ++ (tx (Outcome.text o) ++
 if k = 0 then [] else after ++ jn [32] (List.take k (Outcome.output o)))) + 7 ≤ 9223372036854775807 ∧ List.length (pre (Outcome.status o) ++ (tx (Outcome.text o) ++ if k = 0 then
 [] else after ++ jn [32] (List.take k (Outcome.output o))) ++ [32, 97, 102, 116, 101, 114, 32]) + List.length (Array.toList (ByteArray.data (List.getD (Outcome.output o) k
 default))) ≤ 9223372036854775807 ∧ rng IntKind.i64 ((↑k : Int) + 1) ∧ List.length (Outcome.output o) - (k + 1) < List.length (Outcome.output o) - k ∧ Tc_iFormatOLa o (li ((↑k :
 Int) + 1)) (ls (ByteArray.mk (List.toArray (pre (Outcome.status o) ++ (tx (Outcome.text o) ++ if k = 0 then [] else after ++ jn [32] (List.take k (Outcome.output o))) ++ [32, 97,
 102, 116, 101, 114, 32] ++ Array.toList (ByteArray.data (List.getD (Outcome.output o) k default)))))) = Lc_iFormatOLa o (k + 1) ∧ Ic_iFormatOLa o (List.length (Outcome.output o) -
 (k + 1)) (Lc_iFormatOLa o (k + 1))) ∧ (decide ((↑k : Int) = 0) = false → List.length (pre (Outcome.status o) ++ (tx (Outcome.text o) ++ if k = 0 then [] else after ++ jn [32]
 (List.take k (Outcome.output o)))) + 1 ≤ 9223372036854775807 ∧ List.length (pre (Outcome.status o) ++ (tx (Outcome.text o) ++ if k = 0 then [] else after ++ jn [32] (List.take k
 (Outcome.output o))) ++ [32]) + List.length (Array.toList (ByteArray.data (List.getD (Outcome.output o) k default))) ≤ 9223372036854775807 ∧ rng IntKind.i64 ((↑k : Int) + 1) ∧
 List.length (Outcome.output o) - (k + 1) < List.length (Outcome.output o) - k ∧ Tc_iFormatOLa o (li ((↑k : Int) + 1)) (ls (ByteArray.mk (List.toArray (pre (Outcome.status o) ++
 (tx (Outcome.text o) ++ if k = 0 then [] else after ++ jn [32] (List.take k (Outcome.output o))) ++ [32] ++ Array.toList (ByteArray.data (List.getD (Outcome.output o) k
 default)))))) = Lc_iFormatOLa o (k + 1) ∧ Ic_iFormatOLa o (List.length (Outcome.output o) - (k + 1)) (Lc_iFormatOLa o (k + 1)))) ∧ (decide ((↑k : Int) < (↑(List.length (List.map
 strC (Outcome.output o))) : Int)) = false → (1 ≤ Outcome.status o ∧ Outcome.status o ≤ 4) ∧ W0c_iFormatOLa o (ls (mkS (pre (Outcome.status o) ++ (tx (Outcome.text o) ++ if k = 0
 then [] else after ++ jn [32] (List.take k (Outcome.output o)))))) = W0c_iFormatOLa o (ls (mkS (fmtO o))))) := by kernel_rfl
theorem Sc_iFormatOLa (o : Outcome) (h : wO o ≤ 1048576)  : LoopSem Try.prog (loopAt Try.f29 0) (Ic_iFormatOLa o) (Yc_iFormatOLa o) := by
  refine LoopSem.ofHead wide fun k h => ⟨_, _, run_c_iFormatOLa o k, ?_⟩
  have h1 := jn_take [32] o.output k
  have h2 := @sumBy_mem _ ByteArray.size o.output (o.output.getD k default)
  have h3 := pre_len o.status
  have h5 : after.length = 7 := rfl
  simp only [wO, wS, List.length_cons, List.length_nil] at *
  with_reducible repeat' (first | apply And.intro | (intro; skip) | apply Hc_iFormatOLa | apply Ec_iFormatOLa)
  all_goals (try simp only [size_list, List.length_map, Int.toNat_natCast, rng64, obsEq_iff, List.length_append, List.length_replicate, fillTo_len, decide_eq_true_eq, decide_eq_false_iff_not, ne_eq, lb_inj, li_inj, ls_inj, mk_toArray, tx_mkS, mkS_inj, size_mkS] at *)
  all_goals (try (first | with_reducible rfl | omega | assumption | exact getC (by first | omega | (simp only [fillTo_len]; omega) | grind) rfl | exact outcomeGet (by first | omega | (simp only [fillTo_len]; omega) | grind) | exact datumGet (by first | omega | (simp only [fillTo_len]; omega) | grind) | exact coreGet (by first | omega | (simp only [fillTo_len]; omega) | grind) | exact congrArg (Ob.arr true _) (fill_step (by first | omega | (simp only [fillTo_len]; omega) | grind) (by first | rfl | exact outcomeC_eq _ | exact datumC_eq _ | exact coreC_eq _)) | exact congrArg (Ob.arr true _) (fill_init (by first | rfl | exact outcomeC_eq _ | exact datumC_eq _ | exact coreC_eq _)) | grind [jn_step, getD_mem', jn, List.append_assoc, after, fmtO]))
theorem run_c_iFormatO (o : Outcome) : aexec Try.prog (Option.getD (Func.body Try.f29) Code.skip) (entry [] [outcomeA o] 39) [Orc.br [Orc.ghost (Ghost.sel [] [3, 21, 22, 23]),
 Orc.loop (List.length (Outcome.output o) - 0) (Lc_iFormatOLa o 0) (Ic_iFormatOLa o) [(1 ≤ Outcome.status o ∧ Outcome.status o ≤ 4, AEx.exit 1, W0c_iFormatOLa o (ls (mkS (fmtO
 o))), [Orc.fin []])]] [Orc.br [Orc.ghost (Ghost.sel [] [3, 21, 22, 23]), Orc.loop (List.length (Outcome.output o) - 0) (Lc_iFormatOLa o 0) (Ic_iFormatOLa o) [(1 ≤ Outcome.status o
 ∧ Outcome.status o ≤ 4, AEx.exit 1, W0c_iFormatOLa o (ls (mkS (fmtO o))), [Orc.fin []])]] [Orc.br [Orc.ghost (Ghost.sel [] [3, 21, 22, 23]), Orc.loop (List.length (Outcome.output
 o) - 0) (Lc_iFormatOLa o 0) (Ic_iFormatOLa o) [(1 ≤ Outcome.status o ∧ Outcome.status o ≤ 4, AEx.exit 1, W0c_iFormatOLa o (ls (mkS (fmtO o))), [Orc.fin []])]] [Orc.br [Orc.ghost
 (Ghost.sel [] [3, 21, 22, 23]), Orc.loop (List.length (Outcome.output o) - 0) (Lc_iFormatOLa o 0) (Ic_iFormatOLa o) [(1 ≤ Outcome.status o ∧ Outcome.status o ≤ 4, AEx.exit 1,
 W0c_iFormatOLa o (ls (mkS (fmtO o))), [Orc.fin []])]] [Orc.fin []]]]]] (finK Try.prog [ResultVar.tmp 2] [] (AV.sv (ls (mkS (fmtO o))))) = ((decide (Outcome.status o = 1) = true →
 6 + List.length (Array.toList (ByteArray.data (Outcome.text o))) ≤ 9223372036854775807 ∧ (List.length (List.map strC (Outcome.output o)) ≤ 9223372036854775807 → Tc_iFormatOLa o
 (li 0) (ls (ByteArray.mk (List.toArray ([118, 97, 108, 117, 101, 32] ++ Array.toList (ByteArray.data (Outcome.text o)))))) = Lc_iFormatOLa o 0 ∧ Ic_iFormatOLa o (List.length
 (Outcome.output o) - 0) (Lc_iFormatOLa o 0) ∧ LoopSem Try.prog (loopAt Try.f29 0) (Ic_iFormatOLa o) (Yc_iFormatOLa o) ∧ (1 ≤ Outcome.status o ∧ Outcome.status o ≤ 4 → ObsEq [] []
 ∧ AV.sv (ls (mkS (fmtO o))) = AV.sv (ls (mkS (fmtO o)))) ∧ True)) ∧ (decide (Outcome.status o = 1) = false → (decide (Outcome.status o = 2) = true → 7 + List.length (Array.toList
 (ByteArray.data (Outcome.text o))) ≤ 9223372036854775807 ∧ (List.length (List.map strC (Outcome.output o)) ≤ 9223372036854775807 → Tc_iFormatOLa o (li 0) (ls (ByteArray.mk
 (List.toArray ([101, 114, 114, 111, 114, 58, 32] ++ Array.toList (ByteArray.data (Outcome.text o)))))) = Lc_iFormatOLa o 0 ∧ Ic_iFormatOLa o (List.length (Outcome.output o) - 0)
 (Lc_iFormatOLa o 0) ∧ LoopSem Try.prog (loopAt Try.f29 0) (Ic_iFormatOLa o) (Yc_iFormatOLa o) ∧ (1 ≤ Outcome.status o ∧ Outcome.status o ≤ 4 → ObsEq [] [] ∧ AV.sv (ls (mkS (fmtO
 o))) = AV.sv (ls (mkS (fmtO o)))) ∧ True)) ∧ (decide (Outcome.status o = 2) = false → (decide (Outcome.status o = 3) = true → 12 + List.length (Array.toList (ByteArray.data
 (Outcome.text o))) ≤ 9223372036854775807 ∧ (List.length (List.map strC (Outcome.output o)) ≤ 9223372036854775807 → Tc_iFormatOLa o (li 0) (ls (ByteArray.mk (List.toArray ([111,
 117, 116, 32, 111, 102, 32, 116, 105, 99, 107, 115] ++ Array.toList (ByteArray.data (Outcome.text o)))))) = Lc_iFormatOLa o 0 ∧ Ic_iFormatOLa o (List.length (Outcome.output o) -
 0) (Lc_iFormatOLa o 0) ∧ LoopSem Try.prog (loopAt Try.f29 0) (Ic_iFormatOLa o) (Yc_iFormatOLa o) ∧ (1 ≤ Outcome.status o ∧ Outcome.status o ≤ 4 → ObsEq [] [] ∧ AV.sv (ls (mkS
 (fmtO o))) = AV.sv (ls (mkS (fmtO o)))) ∧ True)) ∧ (decide (Outcome.status o = 3) = false → (decide (Outcome.status o = 4) = true → 13 + List.length (Array.toList (ByteArray.data
 (Outcome.text o))) ≤ 9223372036854775807 ∧ (List.length (List.map strC (Outcome.output o)) ≤ 9223372036854775807 → Tc_iFormatOLa o (li 0) (ls (ByteArray.mk (List.toArray ([111,
 117, 116, 32, 111, 102, 32, 109, 101, 109, 111, 114, 121] ++ Array.toList (ByteArray.data (Outcome.text o)))))) = Lc_iFormatOLa o 0 ∧ Ic_iFormatOLa o (List.length (Outcome.output
 o) - 0) (Lc_iFormatOLa o 0) ∧ LoopSem Try.prog (loopAt Try.f29 0) (Ic_iFormatOLa o) (Yc_iFormatOLa o) ∧ (1 ≤ Outcome.status o ∧ Outcome.status o ≤ 4 → ObsEq [] [] ∧ AV.sv (ls (mkS
 (fmtO o))) = AV.sv (ls (mkS (fmtO o)))) ∧ True)) ∧ (decide (Outcome.status o = 4) = false → ObsEq [] [] ∧ AV.sv (ls (ByteArray.mk #[])) = AV.sv (ls (mkS (fmtO o)))))))) := by
 kernel_rfl
theorem c_iFormatO (o : Outcome) (h : wO o ≤ 1048576)  : CallOK Try.prog 29 [] [outcomeA o] [] (.sv (ls (mkS (fmtO o)))) := by
  refine CallOK.ofRun wide (run_c_iFormatO o) Try.call29 Try.func29 rfl rfl rfl ?_
  have h3 := pre_len o.status
  simp only [wO, wS] at h
  with_reducible repeat' (first | apply And.intro | (intro; skip) | apply Hc_iFormatOLa | apply Ec_iFormatOLa | apply Sc_iFormatOLa)
  all_goals (try simp only [size_list, List.length_map, Int.toNat_natCast, rng64, obsEq_iff, List.length_append, List.length_replicate, fillTo_len, decide_eq_true_eq, decide_eq_false_iff_not, ne_eq, lb_inj, li_inj, ls_inj, mk_toArray, tx_mkS, mkS_inj, size_mkS] at *)
  all_goals (try (first | with_reducible rfl | omega | assumption | exact getC (by first | omega | (simp only [fillTo_len]; omega) | grind) rfl | exact outcomeGet (by first | omega | (simp only [fillTo_len]; omega) | grind) | exact datumGet (by first | omega | (simp only [fillTo_len]; omega) | grind) | exact coreGet (by first | omega | (simp only [fillTo_len]; omega) | grind) | exact congrArg (Ob.arr true _) (fill_step (by first | omega | (simp only [fillTo_len]; omega) | grind) (by first | rfl | exact outcomeC_eq _ | exact datumC_eq _ | exact coreC_eq _)) | exact congrArg (Ob.arr true _) (fill_init (by first | rfl | exact outcomeC_eq _ | exact datumC_eq _ | exact coreC_eq _)) | grind [pre, fmtO]))


theorem run_c_LFormatO (o : Outcome) : aexec Try.prog (Option.getD (Func.body Try.f8) Code.skip) (entry [] [outcomeA o] 27) [Orc.call [Mode.rd, Mode.rd] [] (AV.sv (li (sz (wO o)
 1048576))), Orc.br [Orc.fin []] [Orc.call [Mode.rd] [Ob.arr true 1 (List.map strC (Outcome.output o))] (AV.sv (SV.agg [vI (Outcome.status o), vS (Outcome.text o), AC.ref 0, vI
 (Outcome.ticks o), vI (Outcome.made o)])), Orc.call [Mode.rd] [] (AV.sv (ls (mkS (fmtO o)))), Orc.call [Mode.rd] [Ob.arr true 1 (List.map strC (Outcome.output o))] (AV.sv (SV.agg
 [vI (Outcome.status o), vS (Outcome.text o), AC.ref 0, vI (Outcome.ticks o), vI (Outcome.made o)])), Orc.call [Mode.rd] [] (AV.sv (ls (mkS (fmtO o)))), Orc.br [Orc.fin []]
 [Orc.draw [], Orc.call [Mode.rd] [Ob.arr true 1 (List.map strC (Outcome.output o))] (AV.sv (SV.agg [vI (Outcome.status o), vS (Outcome.text o), AC.ref 0, vI (Outcome.ticks o), vI
 (Outcome.made o)])), Orc.call [Mode.rd, Mode.rd] [] (AV.sv (lb (decide (o = o)))), Orc.br [Orc.fin []] [Orc.fin []]]]] (finK Try.prog [ResultVar.tmp 2] [] (AV.sv (lb true))) =
 (CallOK Try.prog 23 [] [outcomeA o, li 1048576] [] (AV.sv (li (sz (wO o) 1048576))) ∧ (decide (sz (wO o) 1048576 < 0) = true → ObsEq [] [] ∧ AV.sv (lb true) = AV.sv (lb true)) ∧
 (decide (sz (wO o) 1048576 < 0) = false → CallOK Try.prog 25 [] [outcomeA o] [Ob.arr true 1 (List.map strC (Outcome.output o))] (AV.sv (SV.agg [vI (Outcome.status o), vS
 (Outcome.text o), AC.ref 0, vI (Outcome.ticks o), vI (Outcome.made o)])) ∧ CallOK Try.prog 28 [] [outcomeA o] [] (AV.sv (ls (mkS (fmtO o)))) ∧ CallOK Try.prog 25 [] [outcomeA o]
 [Ob.arr true 1 (List.map strC (Outcome.output o))] (AV.sv (SV.agg [vI (Outcome.status o), vS (Outcome.text o), AC.ref 0, vI (Outcome.ticks o), vI (Outcome.made o)])) ∧ CallOK
 Try.prog 29 [] [outcomeA o] [] (AV.sv (ls (mkS (fmtO o)))) ∧ (decide (fmtO o ≠ fmtO o) = true → ObsEq [] [] ∧ AV.sv (lb false) = AV.sv (lb true)) ∧ (decide (fmtO o ≠ fmtO o) =
 false → CallOK Try.prog 25 [] [outcomeA o] [Ob.arr true 1 (List.map strC (Outcome.output o))] (AV.sv (SV.agg [vI (Outcome.status o), vS (Outcome.text o), AC.ref 0, vI
 (Outcome.ticks o), vI (Outcome.made o)])) ∧ CallOK Try.prog 27 [] [outcomeA o, outcomeA o] [] (AV.sv (lb (decide (o = o)))) ∧ ((!decide (o = o)) = true → ObsEq [] [] ∧ AV.sv (lb
 false) = AV.sv (lb true)) ∧ ((!decide (o = o)) = false → ObsEq [] [] ∧ AV.sv (lb true) = AV.sv (lb true))))) := by kernel_rfl
theorem c_LFormatO (o : Outcome)  : CallOK Try.prog 8 [] [outcomeA o] [] (.sv (lb true)) := by
  refine CallOK.ofRun wide (run_c_LFormatO o) Try.call8 Try.func8 rfl rfl rfl ?_
  with_reducible repeat' (first | apply And.intro | (intro; skip) | apply c23 | apply c25 | apply c_sFormatO | apply c_iFormatO | apply c27)
  all_goals (try simp only [size_list, List.length_map, Int.toNat_natCast, rng64, obsEq_iff, List.length_append, List.length_replicate, fillTo_len, decide_eq_true_eq, decide_eq_false_iff_not, ne_eq, lb_inj, li_inj, ls_inj, mk_toArray, tx_mkS, mkS_inj, size_mkS] at *)
  all_goals (try (first | with_reducible rfl | omega | assumption | exact getC (by first | omega | (simp only [fillTo_len]; omega) | grind) rfl | exact outcomeGet (by first | omega | (simp only [fillTo_len]; omega) | grind) | exact datumGet (by first | omega | (simp only [fillTo_len]; omega) | grind) | exact coreGet (by first | omega | (simp only [fillTo_len]; omega) | grind) | exact congrArg (Ob.arr true _) (fill_step (by first | omega | (simp only [fillTo_len]; omega) | grind) (by first | rfl | exact outcomeC_eq _ | exact datumC_eq _ | exact coreC_eq _)) | exact congrArg (Ob.arr true _) (fill_init (by first | rfl | exact outcomeC_eq _ | exact datumC_eq _ | exact coreC_eq _)) | grind [sz]))

end Go.Proofs.Ytjaahbkdpodbbaa
