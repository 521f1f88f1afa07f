/- The contracts of CodeText (both packages) and of the law that compares them. No condition. -/
import Derived.Test.YtjaahbkdpodbbaaBase
namespace Go.Proofs.Ytjaahbkdpodbbaa
open Go Go.Proofs.Ytjaahbkdpodbbaa.Ab
set_option linter.unusedVariables false
set_option linter.unusedSimpArgs false

def codeTexts : List ByteArray := [ByteArray.mk #[111, 107], ByteArray.mk #[98, 97, 100, 32, 115, 121, 110, 116, 97, 120],
  ByteArray.mk #[117, 110, 98, 111, 117, 110, 100, 32, 105, 100, 101, 110, 116, 105, 102, 105, 101, 114],
  ByteArray.mk #[97, 109, 98, 105, 103, 117, 111, 117, 115, 32, 105, 100, 101, 110, 116, 105, 102, 105, 101, 114],
  ByteArray.mk #[100, 117, 112, 108, 105, 99, 97, 116, 101, 32, 100, 101, 102, 105, 110, 105, 116, 105, 111, 110],
  ByteArray.mk #[100, 101, 102, 105, 110, 105, 116, 105, 111, 110, 32, 105, 110, 32, 101, 120, 112, 114, 101, 115, 115, 105, 111, 110, 32, 99, 111, 110, 116, 101, 120, 116],
  ByteArray.mk #[110, 111, 32, 109, 97, 116, 99, 104, 105, 110, 103, 32, 114, 117, 108, 101],
  ByteArray.mk #[116, 111, 111, 32, 109, 97, 110, 121, 32, 109, 97, 99, 114, 111, 32, 115, 116, 101, 112, 115],
  ByteArray.mk #[116, 111, 111, 32, 108, 97, 114, 103, 101]]

def codeText (x : Int) : ByteArray := if 0 ≤ x ∧ x ≤ 8 then codeTexts.getD x.toNat .empty else .empty

theorem run_c_l1In (x : Int) (a : Int) (b : Int) : aexec Try.prog (Option.getD (Func.body Try.f49) Code.skip) (entry [] [li x, li a, li b] 15) [Orc.br [Orc.fin []] [Orc.fin []]]
 (finK Try.prog [ResultVar.tmp 6] [] (AV.sv (lb (decide (a ≤ x) && decide (x ≤ b))))) = ((decide (a ≤ x) = true → ObsEq [] [] ∧ AV.sv (lb (decide (x ≤ b))) = AV.sv (lb (decide (a ≤
 x) && decide (x ≤ b)))) ∧ (decide (a ≤ x) = false → ObsEq [] [] ∧ AV.sv (lb false) = AV.sv (lb (decide (a ≤ x) && decide (x ≤ b))))) := by kernel_rfl
theorem c_l1In (x a b : Int)  : CallOK Try.prog 49 [] [li x, li a, li b] [] (.sv (lb (decide (a ≤ x) && decide (x ≤ b)))) := by
  refine CallOK.ofRun wide (run_c_l1In x a b) Try.call49 Try.func49 rfl rfl rfl ?_
  with_reducible repeat' (first | apply And.intro | (intro; skip))
  all_goals (try simp only [size_list, List.length_map, Int.toNat_natCast, rng64, obsEq_iff, List.length_append, List.length_replicate, fillTo_len, decide_eq_true_eq, decide_eq_false_iff_not, ne_eq, lb_inj, li_inj, ls_inj, mk_toArray, tx_mkS, mkS_inj, size_mkS] at *)
  all_goals (try (first | with_reducible rfl | omega | assumption | exact getC (by first | omega | (simp only [fillTo_len]; omega) | grind) rfl | exact congrArg (Ob.arr true _) (fill_step (by first | omega | (simp only [fillTo_len]; omega) | grind) (by first | rfl)) | exact congrArg (Ob.arr true _) (fill_init (by first | rfl)) | grind))


theorem run_c_sCodeText (x : Int) : aexec Try.prog (Option.getD (Func.body Try.f15) Code.skip) (entry [] [li x] 10) [Orc.call [Mode.rd, Mode.rd, Mode.rd] [] (AV.sv (lb (decide (0 ≤
 x) && decide (x ≤ 8)))), Orc.br [Orc.fin []] [Orc.cells (strC (List.getD codeTexts (Int.toNat x) ByteArray.empty)), Orc.fin []]] (finK Try.prog [ResultVar.tmp 2] [] (AV.sv (ls
 (codeText x)))) = (CallOK Try.prog 49 [] [li x, li 0, li 8] [] (AV.sv (lb (decide (0 ≤ x) && decide (x ≤ 8)))) ∧ ((!(decide (0 ≤ x) && decide (x ≤ 8))) = true → ObsEq [] [] ∧
 AV.sv (ls (ByteArray.mk #[])) = AV.sv (ls (codeText x))) ∧ ((!(decide (0 ≤ x) && decide (x ≤ 8))) = false → (0 ≤ x ∧ Int.toNat x < 9) ∧ (List.map strC codeTexts)[Int.toNat x]? =
 some [cS (List.getD codeTexts (Int.toNat x) ByteArray.empty)] ∧ ObsEq [] [] ∧ AV.sv (ls (List.getD codeTexts (Int.toNat x) ByteArray.empty)) = AV.sv (ls (codeText x)))) := by
 kernel_rfl
theorem c_sCodeText (x : Int)  : CallOK Try.prog 15 [] [li x] [] (.sv (ls (codeText x))) := by
  refine CallOK.ofRun wide (run_c_sCodeText x) Try.call15 Try.func15 rfl rfl rfl ?_
  refine ⟨c_l1In _ _ _, fun h => ⟨rfl, ?_⟩, fun h => ?_⟩
  · have h' : ¬ (0 ≤ x ∧ x ≤ 8) := by simp at h; omega
    rw [codeText, if_neg h']; rfl
  · have h' : 0 ≤ x ∧ x ≤ 8 := by simpa using h
    refine ⟨⟨h'.1, by omega⟩, get_of (f := strC) (L := codeTexts) (d := .empty) (by simp only [codeTexts, List.length_cons, List.length_nil]; omega) rfl rfl, rfl, ?_⟩
    rw [codeText, if_pos h']


theorem run_c_iCodeText (x : Int) : aexec Try.prog (Option.getD (Func.body Try.f16) Code.skip) (entry [] [li x] 17) [Orc.br [Orc.bool true, Orc.fin []] [Orc.br [Orc.fin []]
 [Orc.cells (strC (List.getD codeTexts (Int.toNat x) ByteArray.empty)), Orc.fin []]]] (finK Try.prog [ResultVar.tmp 2] [] (AV.sv (ls (codeText x)))) = ((decide (x < 0) = true →
 true = true ∧ ObsEq [] [] ∧ AV.sv (ls (ByteArray.mk #[])) = AV.sv (ls (codeText x))) ∧ (decide (x < 0) = false → 9 ≤ 9223372036854775807 → (decide (9 ≤ x) = true → ObsEq [] [] ∧
 AV.sv (ls (ByteArray.mk #[])) = AV.sv (ls (codeText x))) ∧ (decide (9 ≤ x) = false → (0 ≤ x ∧ Int.toNat x < 9) ∧ (List.map strC codeTexts)[Int.toNat x]? = some [cS (List.getD
 codeTexts (Int.toNat x) ByteArray.empty)] ∧ ObsEq [] [] ∧ AV.sv (ls (List.getD codeTexts (Int.toNat x) ByteArray.empty)) = AV.sv (ls (codeText x))))) := by kernel_rfl
theorem c_iCodeText (x : Int)  : CallOK Try.prog 16 [] [li x] [] (.sv (ls (codeText x))) := by
  refine CallOK.ofRun wide (run_c_iCodeText x) Try.call16 Try.func16 rfl rfl rfl ?_
  refine ⟨fun h => ⟨rfl, rfl, ?_⟩, fun h _ => ⟨fun h2 => ⟨rfl, ?_⟩, fun h2 => ?_⟩⟩
  · have h' : ¬ (0 ≤ x ∧ x ≤ 8) := by simp at h; omega
    rw [codeText, if_neg h']; rfl
  · have h' : ¬ (0 ≤ x ∧ x ≤ 8) := by simp at h h2; omega
    rw [codeText, if_neg h']; rfl
  · have h' : 0 ≤ x ∧ x ≤ 8 := by simp at h h2; omega
    refine ⟨⟨h'.1, by omega⟩, get_of (f := strC) (L := codeTexts) (d := .empty) (by simp only [codeTexts, List.length_cons, List.length_nil]; omega) rfl rfl, rfl, ?_⟩
    rw [codeText, if_pos h']


theorem run_c_LCodeText (x : Int) : aexec Try.prog (Option.getD (Func.body Try.f3) Code.skip) (entry [] [li x] 12) [Orc.call [Mode.rd] [] (AV.sv (ls (codeText x))), Orc.call
 [Mode.rd] [] (AV.sv (ls (codeText x))), Orc.br [Orc.fin []] [Orc.fin []]] (finK Try.prog [ResultVar.tmp 2] [] (AV.sv (lb true))) = (CallOK Try.prog 15 [] [li x] [] (AV.sv (ls
 (codeText x))) ∧ CallOK Try.prog 16 [] [li x] [] (AV.sv (ls (codeText x))) ∧ (decide (Array.toList (ByteArray.data (codeText x)) ≠ Array.toList (ByteArray.data (codeText x))) =
 true → ObsEq [] [] ∧ AV.sv (lb false) = AV.sv (lb true)) ∧ (decide (Array.toList (ByteArray.data (codeText x)) ≠ Array.toList (ByteArray.data (codeText x))) = false → ObsEq [] []
 ∧ AV.sv (lb true) = AV.sv (lb true))) := by kernel_rfl
theorem c_LCodeText (x : Int)  : CallOK Try.prog 3 [] [li x] [] (.sv (lb true)) := by
  refine CallOK.ofRun wide (run_c_LCodeText x) Try.call3 Try.func3 rfl rfl rfl ?_
  with_reducible repeat' (first | apply And.intro | (intro; skip) | apply c_sCodeText | apply c_iCodeText)
  all_goals (try simp only [size_list, List.length_map, Int.toNat_natCast, rng64, obsEq_iff, List.length_append, List.length_replicate, fillTo_len, decide_eq_true_eq, decide_eq_false_iff_not, ne_eq, lb_inj, li_inj, ls_inj, mk_toArray, tx_mkS, mkS_inj, size_mkS] at *)
  all_goals (try (first | with_reducible rfl | omega | assumption | exact getC (by first | omega | (simp only [fillTo_len]; omega) | grind) rfl | exact congrArg (Ob.arr true _) (fill_step (by first | omega | (simp only [fillTo_len]; omega) | grind) (by first | rfl)) | exact congrArg (Ob.arr true _) (fill_init (by first | rfl)) | grind))

end Go.Proofs.Ytjaahbkdpodbbaa
