/- The contract of the law that compares BoundVariables. No condition. -/
import Derived.Test.YtjaahbkdpodbbaaBound1
import Derived.Test.YtjaahbkdpodbbaaMark1
namespace Go.Proofs.Ytjaahbkdpodbbaa
open Go Go.Proofs.Ytjaahbkdpodbbaa.Ab
set_option linter.unusedVariables false
set_option linter.unusedSimpArgs false
set_option maxHeartbeats 4000000

theorem run_c_LBound (a : Core) : aexec Try.prog (Option.getD (Func.body Try.f12) Code.skip) (entry [] [coreA a] 69) [Orc.call [Mode.rd, Mode.rd] [] (AV.sv (li (sz (wC a)
 1048576))), Orc.br [Orc.fin []] [Orc.call [Mode.rd] [Ob.arr true 1 (List.map intC (Core.params a)), Ob.arr true 4 (List.map datumC (Datum.items (Core.datum a))), Ob.arr true 8
 (List.map coreC (Core.kids a))] (AV.sv (SV.agg [vI (Core.kind a), vI (Core.number a), AC.ref 0, vI (Datum.kind (Core.datum a)), vI (Datum.number (Core.datum a)), vS (Datum.text
 (Core.datum a)), AC.ref 1, AC.ref 2])), Orc.call [Mode.rd] [Ob.arr true 1 (List.map intC (bnd a))] (AV.sv (SV.one (AC.ref 0))), Orc.call [Mode.rd] [Ob.arr true 1 (List.map intC
 (Core.params a)), Ob.arr true 4 (List.map datumC (Datum.items (Core.datum a))), Ob.arr true 8 (List.map coreC (Core.kids a))] (AV.sv (SV.agg [vI (Core.kind a), vI (Core.number a),
 AC.ref 0, vI (Datum.kind (Core.datum a)), vI (Datum.number (Core.datum a)), vS (Datum.text (Core.datum a)), AC.ref 1, AC.ref 2])), Orc.call [Mode.rd] [Ob.arr true 1 (List.map intC
 (bnd a))] (AV.sv (SV.one (AC.ref 0))), Orc.call [Mode.rd, Mode.rd] [] (AV.sv (lb (decide (bnd a = bnd a)))), Orc.br [Orc.fin []] [Orc.draw [], Orc.call [Mode.rd] [Ob.arr true 1
 (List.map intC (Core.params a)), Ob.arr true 4 (List.map datumC (Datum.items (Core.datum a))), Ob.arr true 8 (List.map coreC (Core.kids a))] (AV.sv (SV.agg [vI (Core.kind a), vI
 (Core.number a), AC.ref 0, vI (Datum.kind (Core.datum a)), vI (Datum.number (Core.datum a)), vS (Datum.text (Core.datum a)), AC.ref 1, AC.ref 2])), Orc.call [Mode.rd, Mode.rd] []
 (AV.sv (lb (decide (a = a)))), Orc.br [Orc.fin []] [Orc.call [Mode.agg [none, none, some (true, 1), none, none, none, some (true, 4), some (true, 8)], Mode.rd] [Ob.arr true 1
 (List.map intC (seqM mkI cOne (Core.params a) 1)), Ob.arr true 4 (List.map datumC (seqM mkD cD (Datum.items (Core.datum a)) (1 + (↑(List.length (Core.params a)) : Int)))), Ob.arr
 true 8 (List.map coreC (seqM mkC cC (Core.kids a) (1 + (↑(List.length (Core.params a)) : Int) + (↑(sumBy cD (Datum.items (Core.datum a))) : Int))))] (AV.sv (li (1 + (↑(List.length
 (Core.params a)) : Int) + (↑(sumBy cD (Datum.items (Core.datum a))) : Int) + (↑(sumBy cC (Core.kids a)) : Int)))), Orc.bool false, Orc.call [Mode.rd, Mode.rd] [] (AV.sv (lb
 (decide (bnd a = bnd a)))), Orc.br [Orc.fin []] [Orc.call [Mode.own true 1, Mode.rd] [Ob.arr true 1 (List.map intC (seqM mkI cOne (bnd a) 1))] (AV.sv (li (1 + (↑(List.length (bnd
 a)) : Int)))), Orc.call [Mode.rd, Mode.rd] [] (AV.sv (li (if seqM mkI cOne (seqM mkI cOne (bnd a) 1) 1 = seqM mkI cOne (bnd a) 1 then 1 + (↑(List.length (seqM mkI cOne (bnd a) 1))
 : Int) else (-1 : Int)))), Orc.br [Orc.fin []] [Orc.br [Orc.fin []] [Orc.call [Mode.rd] [Ob.arr true 1 (List.map intC (Core.params a)), Ob.arr true 4 (List.map datumC (Datum.items
 (Core.datum a))), Ob.arr true 8 (List.map coreC (Core.kids a))] (AV.sv (SV.agg [vI (Core.kind a), vI (Core.number a), AC.ref 0, vI (Datum.kind (Core.datum a)), vI (Datum.number
 (Core.datum a)), vS (Datum.text (Core.datum a)), AC.ref 1, AC.ref 2])), Orc.call [Mode.rd] [Ob.arr true 1 (List.map intC (bnd a))] (AV.sv (SV.one (AC.ref 0))), Orc.call [Mode.rd,
 Mode.rd] [] (AV.sv (lb (decide (bnd a = bnd a)))), Orc.br [Orc.fin []] [Orc.call [Mode.rd, Mode.rd] [] (AV.sv (li (if seqM mkI cOne (seqM mkI cOne (bnd a) 1) 1 = seqM mkI cOne
 (bnd a) 1 then 1 + (↑(List.length (seqM mkI cOne (bnd a) 1)) : Int) else (-1 : Int)))), Orc.br [Orc.fin []] [Orc.br [Orc.fin []] [Orc.fin []]]]]]]]]]] (finK Try.prog
 [ResultVar.tmp 2] [] (AV.sv (lb true))) = (CallOK Try.prog (30 : FuncId) [] [coreA a, li 1048576] [] (AV.sv (li (sz (wC a) 1048576))) ∧ (decide (sz (wC a) 1048576 < 0) = true →
 ObsEq [] [] ∧ AV.sv (lb true) = AV.sv (lb true)) ∧ (decide (sz (wC a) 1048576 < 0) = false → CallOK Try.prog (32 : FuncId) [] [coreA a] [Ob.arr true 1 (List.map intC (Core.params
 a)), Ob.arr true 4 (List.map datumC (Datum.items (Core.datum a))), Ob.arr true 8 (List.map coreC (Core.kids a))] (AV.sv (SV.agg [vI (Core.kind a), vI (Core.number a), AC.ref 0, vI
 (Datum.kind (Core.datum a)), vI (Datum.number (Core.datum a)), vS (Datum.text (Core.datum a)), AC.ref 1, AC.ref 2])) ∧ CallOK Try.prog (39 : FuncId) [] [coreA a] [Ob.arr true 1
 (List.map intC (bnd a))] (AV.sv (SV.one (AC.ref 0))) ∧ CallOK Try.prog (32 : FuncId) [] [coreA a] [Ob.arr true 1 (List.map intC (Core.params a)), Ob.arr true 4 (List.map datumC
 (Datum.items (Core.datum a))), Ob.arr true 8 (List.map coreC (Core.kids a))] (AV.sv (SV.agg [vI (Core.kind a), vI (Core.number a), AC.ref 0, vI (Datum.kind (Core.datum a)), vI
 (Datum.number (Core.datum a)), vS (Datum.text (Core.datum a)), AC.ref 1, AC.ref 2])) ∧ CallOK Try.prog (40 : FuncId) [] [coreA a] [Ob.arr true 1 (List.map intC (bnd a))] (AV.sv
 (SV.one (AC.ref 0))) ∧ CallOK Try.prog (41 : FuncId) [] [ll (List.map intC (bnd a)), ll (List.map intC (bnd a))] [] (AV.sv (lb (decide (bnd a = bnd a)))) ∧ ((!decide (bnd a = bnd
 a)) = true → ObsEq [] [] ∧ AV.sv (lb false) = AV.sv (lb true)) ∧ ((!decide (bnd a = bnd a)) = false → CallOK Try.prog (32 : FuncId) [] [coreA a] [Ob.arr true 1 (List.map intC
 (Core.params a)), Ob.arr true 4 (List.map datumC (Datum.items (Core.datum a))), Ob.arr true 8 (List.map coreC (Core.kids a))] (AV.sv (SV.agg [vI (Core.kind a), vI (Core.number a),
 AC.ref 0, vI (Datum.kind (Core.datum a)), vI (Datum.number (Core.datum a)), vS (Datum.text (Core.datum a)), AC.ref 1, AC.ref 2])) ∧ CallOK Try.prog (34 : FuncId) [] [coreA a,
 coreA a] [] (AV.sv (lb (decide (a = a)))) ∧ ((!decide (a = a)) = true → ObsEq [] [] ∧ AV.sv (lb false) = AV.sv (lb true)) ∧ ((!decide (a = a)) = false → CallOK Try.prog (42 :
 FuncId) [Ob.arr true 1 (List.map intC (Core.params a)), Ob.arr true 4 (List.map datumC (Datum.items (Core.datum a))), Ob.arr true 8 (List.map coreC (Core.kids a))] [SV.agg [vI
 (Core.kind a), vI (Core.number a), AC.ref 0, vI (Datum.kind (Core.datum a)), vI (Datum.number (Core.datum a)), vS (Datum.text (Core.datum a)), AC.ref 1, AC.ref 2], li 1] [Ob.arr
 true 1 (List.map intC (seqM mkI cOne (Core.params a) 1)), Ob.arr true 4 (List.map datumC (seqM mkD cD (Datum.items (Core.datum a)) (1 + (↑(List.length (Core.params a)) : Int)))),
 Ob.arr true 8 (List.map coreC (seqM mkC cC (Core.kids a) (1 + (↑(List.length (Core.params a)) : Int) + (↑(sumBy cD (Datum.items (Core.datum a))) : Int))))] (AV.sv (li (1 +
 (↑(List.length (Core.params a)) : Int) + (↑(sumBy cD (Datum.items (Core.datum a))) : Int) + (↑(sumBy cC (Core.kids a)) : Int)))) ∧ false = false ∧ CallOK Try.prog (41 : FuncId) []
 [ll (List.map intC (bnd a)), ll (List.map intC (bnd a))] [] (AV.sv (lb (decide (bnd a = bnd a)))) ∧ ((!decide (bnd a = bnd a)) = true → ObsEq [] [] ∧ AV.sv (lb false) = AV.sv (lb
 true)) ∧ ((!decide (bnd a = bnd a)) = false → CallOK Try.prog (43 : FuncId) [Ob.arr true 1 (List.map intC (bnd a))] [SV.one (AC.ref 0), li 1] [Ob.arr true 1 (List.map intC (seqM
 mkI cOne (bnd a) 1))] (AV.sv (li (1 + (↑(List.length (bnd a)) : Int)))) ∧ CallOK Try.prog (44 : FuncId) [] [ll (List.map intC (seqM mkI cOne (bnd a) 1)), li 1] [] (AV.sv (li (if
 seqM mkI cOne (seqM mkI cOne (bnd a) 1) 1 = seqM mkI cOne (bnd a) 1 then 1 + (↑(List.length (seqM mkI cOne (bnd a) 1)) : Int) else (-1 : Int)))) ∧ (decide ((if seqM mkI cOne (seqM
 mkI cOne (bnd a) 1) 1 = seqM mkI cOne (bnd a) 1 then 1 + (↑(List.length (seqM mkI cOne (bnd a) 1)) : Int) else (-1 : Int)) < 0) = true → ObsEq [] [] ∧ AV.sv (lb false) = AV.sv (lb
 true)) ∧ (decide ((if seqM mkI cOne (seqM mkI cOne (bnd a) 1) 1 = seqM mkI cOne (bnd a) 1 then 1 + (↑(List.length (seqM mkI cOne (bnd a) 1)) : Int) else (-1 : Int)) < 0) = false →
 (decide ((if seqM mkI cOne (seqM mkI cOne (bnd a) 1) 1 = seqM mkI cOne (bnd a) 1 then 1 + (↑(List.length (seqM mkI cOne (bnd a) 1)) : Int) else (-1 : Int)) ≠ 1 + (↑(List.length
 (bnd a)) : Int)) = true → ObsEq [] [] ∧ AV.sv (lb false) = AV.sv (lb true)) ∧ (decide ((if seqM mkI cOne (seqM mkI cOne (bnd a) 1) 1 = seqM mkI cOne (bnd a) 1 then 1 +
 (↑(List.length (seqM mkI cOne (bnd a) 1)) : Int) else (-1 : Int)) ≠ 1 + (↑(List.length (bnd a)) : Int)) = false → CallOK Try.prog (32 : FuncId) [] [coreA a] [Ob.arr true 1
 (List.map intC (Core.params a)), Ob.arr true 4 (List.map datumC (Datum.items (Core.datum a))), Ob.arr true 8 (List.map coreC (Core.kids a))] (AV.sv (SV.agg [vI (Core.kind a), vI
 (Core.number a), AC.ref 0, vI (Datum.kind (Core.datum a)), vI (Datum.number (Core.datum a)), vS (Datum.text (Core.datum a)), AC.ref 1, AC.ref 2])) ∧ CallOK Try.prog (40 : FuncId)
 [] [coreA a] [Ob.arr true 1 (List.map intC (bnd a))] (AV.sv (SV.one (AC.ref 0))) ∧ CallOK Try.prog (41 : FuncId) [] [ll (List.map intC (bnd a)), ll (List.map intC (bnd a))] []
 (AV.sv (lb (decide (bnd a = bnd a)))) ∧ ((!decide (bnd a = bnd a)) = true → ObsEq [] [] ∧ AV.sv (lb false) = AV.sv (lb true)) ∧ ((!decide (bnd a = bnd a)) = false → CallOK
 Try.prog (44 : FuncId) [] [ll (List.map intC (seqM mkI cOne (bnd a) 1)), li 1] [] (AV.sv (li (if seqM mkI cOne (seqM mkI cOne (bnd a) 1) 1 = seqM mkI cOne (bnd a) 1 then 1 +
 (↑(List.length (seqM mkI cOne (bnd a) 1)) : Int) else (-1 : Int)))) ∧ (decide ((if seqM mkI cOne (seqM mkI cOne (bnd a) 1) 1 = seqM mkI cOne (bnd a) 1 then 1 + (↑(List.length
 (seqM mkI cOne (bnd a) 1)) : Int) else (-1 : Int)) < 0) = true → ObsEq [] [] ∧ AV.sv (lb false) = AV.sv (lb true)) ∧ (decide ((if seqM mkI cOne (seqM mkI cOne (bnd a) 1) 1 = seqM
 mkI cOne (bnd a) 1 then 1 + (↑(List.length (seqM mkI cOne (bnd a) 1)) : Int) else (-1 : Int)) < 0) = false → (decide ((if seqM mkI cOne (seqM mkI cOne (bnd a) 1) 1 = seqM mkI cOne
 (bnd a) 1 then 1 + (↑(List.length (seqM mkI cOne (bnd a) 1)) : Int) else (-1 : Int)) ≠ 1 + (↑(List.length (bnd a)) : Int)) = true → ObsEq [] [] ∧ AV.sv (lb false) = AV.sv (lb
 true)) ∧ (decide ((if seqM mkI cOne (seqM mkI cOne (bnd a) 1) 1 = seqM mkI cOne (bnd a) 1 then 1 + (↑(List.length (seqM mkI cOne (bnd a) 1)) : Int) else (-1 : Int)) ≠ 1 +
 (↑(List.length (bnd a)) : Int)) = false → ObsEq [] [] ∧ AV.sv (lb true) = AV.sv (lb true))))))))))) := by kernel_rfl
theorem c_LBound (a : Core)  : CallOK Try.prog 12 [] [coreA a] [] (.sv (lb true)) := by
  refine CallOK.ofRun wide (run_c_LBound a) Try.call12 Try.func12 rfl rfl rfl ?_
  have h1 := bnd_le a
  have h2 := cC_le a
  have h3 := cC_eq a
  have h4 := seqI_idem (bnd a) 1
  with_reducible repeat' (first | apply And.intro | (intro; skip) | apply c_szCore | apply c_toCore | apply c_eqCore | apply c_sBoundVariables | apply c_iBoundVariables | apply c_eqIntS | apply c_markCore | apply c_markIntS | apply c_heldIntS)
  all_goals (try simp only [size_list, List.length_map, Int.toNat_natCast, rng64, obsEq_iff, List.length_append, List.length_replicate, fillTo_len, decide_eq_true_eq, decide_eq_false_iff_not, ne_eq, lb_inj, li_inj, ls_inj, mk_toArray, tx_mkS, mkS_inj, size_mkS, mkTo_len, mkTo_zero, cOne_sum, seqM_len, List.length_set, List.set_set, List.take_zero, sumBy, Int.natCast_zero, Int.add_zero] at *)
  all_goals (try (first | with_reducible rfl | omega | assumption | exact getC (by first | omega | (simp only [fillTo_len, mkTo_len]; omega) | grind) rfl | exact outcomeGet (by first | omega | (simp only [fillTo_len, mkTo_len]; omega) | grind) | exact datumGet (by first | omega | (simp only [fillTo_len, mkTo_len]; omega) | grind) | exact coreGet (by first | omega | (simp only [fillTo_len, mkTo_len]; omega) | grind) | exact congrArg (Ob.arr true _) (fill_step (by first | omega | (simp only [fillTo_len, mkTo_len]; omega) | grind) (by first | rfl | exact outcomeC_eq _ | exact datumC_eq _ | exact coreC_eq _)) | exact congrArg (Ob.arr true _) (fill_init (by first | rfl | exact outcomeC_eq _ | exact datumC_eq _ | exact coreC_eq _)) | exact set_row (by simp only [List.length_map, List.length_set, mkTo_len]; omega) | exact (by first | exact rowLit (by assumption) (by assumption) | exact rowLen intC_len (by assumption) | exact rowLen strC_len (by assumption) | exact rowLen outcomeC_len (by assumption) | exact rowLen datumC_len (by assumption) | exact rowLen coreC_len (by assumption)) | exact mkTo_row (by first | omega | (simp only [fillTo_len, mkTo_len]; omega) | grind) (by first | rfl | exact outcomeC_eq _ | exact datumC_eq _ | exact coreC_eq _) | exact congrArg (Ob.arr true _) (mkTo_step (by first | omega | (simp only [fillTo_len, mkTo_len]; omega) | grind) (by grind [sz])) | grind [sz]))

end Go.Proofs.Ytjaahbkdpodbbaa
