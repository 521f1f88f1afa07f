/- The contracts of the laws that compare FreeVariables and BoxedVariables. No condition. -/
import Derived.Test.YtamcedjjlokfhaaFree1
import Derived.Test.YtamcedjjlokfhaaHHeld
import Derived.Test.YtamcedjjlokfhaaHSz
import Derived.Test.YtamcedjjlokfhaaHTo
import Derived.Test.YtamcedjjlokfhaaHEq
namespace Go.Proofs.Ytamcedjjlokfhaa
open Go Go.Proofs.Ytamcedjjlokfhaa.Ab
set_option linter.unusedVariables false
set_option linter.unusedSimpArgs false
set_option maxHeartbeats 4000000

abbrev P_c_LFree (a : Core) : Prop := CallOK Try.prog 4 [] [coreA a] [] (.sv (lb true))
abbrev a1_c_LFree (a : Core) := (1 + (↑(List.length (seqM mkI cOne (fre a [] []) 1)) : Int) ≠ 1 + (↑(List.length (fre a [] [])) : Int))
theorem run_c_LFree (a : Core) : aexec Try.prog (Option.getD (Func.body Try.f4) Code.skip) (entry [] [coreA a] 69) [Orc.call [Mode.rd, Mode.rd] [] (AV.sv (li (sz (wC a) 1048576))),
 Orc.br [Orc.fin []] [Orc.call [Mode.rd] (coreO a) (AV.sv (coreR a 0)), Orc.call [Mode.rd] [Ob.arr true 1 (List.map intC (fre a [] []))] (AV.sv (SV.one (AC.ref 0))), Orc.call
 [Mode.rd] (coreO a) (AV.sv (coreR a 0)), Orc.call [Mode.rd] [Ob.arr true 1 (List.map intC (fre a [] []))] (AV.sv (SV.one (AC.ref 0))), Orc.call [Mode.rd, Mode.rd] [] (AV.sv (lb
 (decide (fre a [] [] = fre a [] [])))), Orc.br [Orc.fin []] [Orc.draw [], Orc.call [Mode.rd] (coreO a) (AV.sv (coreR a 0)), Orc.call [Mode.rd, Mode.rd] [] (AV.sv (lb (decide (a =
 a)))), Orc.br [Orc.fin []] [Orc.call [Mode.agg [none, none, some (true, 1), none, none, none, some (true, 4), some (true, 8)], Mode.rd] [Ob.arr true 1 (List.map intC (seqM mkI
 cOne (Core.params a) 1)), Ob.arr true 4 (List.map datumC (seqM mkD cD (Datum.items (Core.datum a)) (1 + (↑(List.length (Core.params a)) : Int)))), Ob.arr true 8 (List.map coreC
 (seqM mkC cC (Core.kids a) (1 + (↑(List.length (Core.params a)) : Int) + (↑(sumBy cD (Datum.items (Core.datum a))) : Int))))] (AV.sv (li (1 + (↑(List.length (Core.params a)) :
 Int) + (↑(sumBy cD (Datum.items (Core.datum a))) : Int) + (↑(sumBy cC (Core.kids a)) : Int)))), Orc.bool false, Orc.call [Mode.rd, Mode.rd] [] (AV.sv (lb (decide (fre a [] [] =
 fre a [] [])))), Orc.br [Orc.fin []] [Orc.call [Mode.own true 1, Mode.rd] [Ob.arr true 1 (List.map intC (seqM mkI cOne (fre a [] []) 1))] (AV.sv (li (1 + (↑(List.length (fre a []
 [])) : Int)))), Orc.call [Mode.rd, Mode.rd] [] (AV.sv (li (1 + (↑(List.length (seqM mkI cOne (fre a [] []) 1)) : Int)))), Orc.bool false, Orc.br [Orc.fin []] [Orc.call [Mode.rd]
 (coreO a) (AV.sv (coreR a 0)), Orc.call [Mode.rd] [Ob.arr true 1 (List.map intC (fre a [] []))] (AV.sv (SV.one (AC.ref 0))), Orc.call [Mode.rd, Mode.rd] [] (AV.sv (lb (decide (fre
 a [] [] = fre a [] [])))), Orc.br [Orc.fin []] [Orc.call [Mode.rd, Mode.rd] [] (AV.sv (li (1 + (↑(List.length (seqM mkI cOne (fre a [] []) 1)) : Int)))), Orc.bool false, Orc.br
 [Orc.fin []] [Orc.fin []]]]]]]]] (finK Try.prog [ResultVar.tmp 2] [] (AV.sv (lb true))) = (P_c_szCore a 1048576 ∧ (decide (sz (wC a) 1048576 < 0) = true → ObsEq [] [] ∧ AV.sv (lb
 true) = AV.sv (lb true)) ∧ (decide (sz (wC a) 1048576 < 0) = false → P_c_toCore a ∧ P_c_sFree a ∧ P_c_toCore a ∧ P_c_iFree a ∧ P_c_eqIntS (fre a [] []) (fre a [] []) ∧ ((!decide
 (fre a [] [] = fre a [] [])) = true → ObsEq [] [] ∧ AV.sv (lb false) = AV.sv (lb true)) ∧ ((!decide (fre a [] [] = fre a [] [])) = false → P_c_toCore a ∧ P_c_eqCore a a ∧
 ((!decide (a = a)) = true → ObsEq [] [] ∧ AV.sv (lb false) = AV.sv (lb true)) ∧ ((!decide (a = a)) = false → P_c_markCore a 1 ∧ false = false ∧ P_c_eqIntS (fre a [] []) (fre a []
 []) ∧ ((!decide (fre a [] [] = fre a [] [])) = true → ObsEq [] [] ∧ AV.sv (lb false) = AV.sv (lb true)) ∧ ((!decide (fre a [] [] = fre a [] [])) = false → P_c_markIntS (fre a []
 []) 1 ∧ P_c_heldIntS (seqM mkI cOne (fre a [] []) 1) 1 ∧ false = false ∧ (decide (a1_c_LFree a) = true → ObsEq [] [] ∧ AV.sv (lb false) = AV.sv (lb true)) ∧ (decide (a1_c_LFree a)
 = false → P_c_toCore a ∧ P_c_iFree a ∧ P_c_eqIntS (fre a [] []) (fre a [] []) ∧ ((!decide (fre a [] [] = fre a [] [])) = true → ObsEq [] [] ∧ AV.sv (lb false) = AV.sv (lb true)) ∧
 ((!decide (fre a [] [] = fre a [] [])) = false → P_c_heldIntS (seqM mkI cOne (fre a [] []) 1) 1 ∧ false = false ∧ (decide (a1_c_LFree a) = true → ObsEq [] [] ∧ AV.sv (lb false) =
 AV.sv (lb true)) ∧ (decide (a1_c_LFree a) = false → ObsEq [] [] ∧ AV.sv (lb true) = AV.sv (lb true))))))))) := by kernel_rfl
theorem c_LFree (a : Core)  : P_c_LFree a := by
  refine CallOK.ofRun wide (run_c_LFree a) Try.call4 Try.func4 rfl rfl rfl ?_
  try delta a1_c_LFree
  have h1 := fre_len a [] []
  have h2 := cC_le a
  have h3 := cC_eq a
  with_reducible repeat' (first | apply And.intro | exact flatI | exact flatS | exact rowLens | (intro; skip) | apply obsN | apply obsC | apply obA | apply obM | apply obB | apply svA | apply tupA | apply lcA | apply lcS | apply svC | apply liC | apply lbC | apply lsC | apply vIc | apply vBc | apply vSc | apply vLc | apply mapC | apply c_szCore | apply c_toCore | apply c_eqCore | apply c_sFree | apply c_iFree | apply c_eqIntS | apply c_markCore | apply c_markIntS | apply c_heldIntS)
  all_goals (try simp only [std, stdM] at *)
  all_goals (try (first | with_reducible rfl | omega | assumption | (refine (decide_eq_true ?_).symm; assumption) | (refine (decide_eq_false ?_).symm; assumption) | (refine rowGet ?_; (first | omega | (simp only [std, stdM]; omega) | grind)) | (refine getC ?_ rfl; (first | omega | (simp only [std, stdM]; omega) | grind)) | (refine fill_step ?_ ?_; (first | omega | (simp only [std, stdM]; omega) | grind); (first | rfl | exact (Row.eq _).trans rfl)) | (refine fill_init ?_; (first | rfl | exact (Row.eq _).trans rfl)) | (refine set_row ?_; (simp only [List.length_map, List.length_set, mkTo_len]; omega)) | (refine mkToRow ?_; (first | omega | (simp only [std, stdM]; omega) | grind)) | (refine mkTo_row ?_ rfl; (first | omega | (simp only [std, stdM]; omega) | grind)) | (refine mkTo_step ?_ ?_; (first | omega | (simp only [std, stdM]; omega) | grind); (first | grind [sz, seqM_idem, seqM_len, snocI, snocS, rowSnoc])) | grind [sz, seqM_idem, seqM_len, snocI, snocS, rowSnoc]))

abbrev P_c_LBoxed (a : Core) : Prop := CallOK Try.prog 5 [] [coreA a] [] (.sv (lb true))
abbrev a1_c_LBoxed (a : Core) := (1 + (↑(List.length (seqM mkI cOne (box a []) 1)) : Int) ≠ 1 + (↑(List.length (box a [])) : Int))
theorem run_c_LBoxed (a : Core) : aexec Try.prog (Option.getD (Func.body Try.f5) Code.skip) (entry [] [coreA a] 69) [Orc.call [Mode.rd, Mode.rd] [] (AV.sv (li (sz (wC a)
 1048576))), Orc.br [Orc.fin []] [Orc.call [Mode.rd] (coreO a) (AV.sv (coreR a 0)), Orc.call [Mode.rd] [Ob.arr true 1 (List.map intC (box a []))] (AV.sv (SV.one (AC.ref 0))),
 Orc.call [Mode.rd] (coreO a) (AV.sv (coreR a 0)), Orc.call [Mode.rd] [Ob.arr true 1 (List.map intC (box a []))] (AV.sv (SV.one (AC.ref 0))), Orc.call [Mode.rd, Mode.rd] [] (AV.sv
 (lb (decide (box a [] = box a [])))), Orc.br [Orc.fin []] [Orc.draw [], Orc.call [Mode.rd] (coreO a) (AV.sv (coreR a 0)), Orc.call [Mode.rd, Mode.rd] [] (AV.sv (lb (decide (a =
 a)))), Orc.br [Orc.fin []] [Orc.call [Mode.agg [none, none, some (true, 1), none, none, none, some (true, 4), some (true, 8)], Mode.rd] [Ob.arr true 1 (List.map intC (seqM mkI
 cOne (Core.params a) 1)), Ob.arr true 4 (List.map datumC (seqM mkD cD (Datum.items (Core.datum a)) (1 + (↑(List.length (Core.params a)) : Int)))), Ob.arr true 8 (List.map coreC
 (seqM mkC cC (Core.kids a) (1 + (↑(List.length (Core.params a)) : Int) + (↑(sumBy cD (Datum.items (Core.datum a))) : Int))))] (AV.sv (li (1 + (↑(List.length (Core.params a)) :
 Int) + (↑(sumBy cD (Datum.items (Core.datum a))) : Int) + (↑(sumBy cC (Core.kids a)) : Int)))), Orc.bool false, Orc.call [Mode.rd, Mode.rd] [] (AV.sv (lb (decide (box a [] = box a
 [])))), Orc.br [Orc.fin []] [Orc.call [Mode.own true 1, Mode.rd] [Ob.arr true 1 (List.map intC (seqM mkI cOne (box a []) 1))] (AV.sv (li (1 + (↑(List.length (box a [])) : Int)))),
 Orc.call [Mode.rd, Mode.rd] [] (AV.sv (li (1 + (↑(List.length (seqM mkI cOne (box a []) 1)) : Int)))), Orc.bool false, Orc.br [Orc.fin []] [Orc.call [Mode.rd] (coreO a) (AV.sv
 (coreR a 0)), Orc.call [Mode.rd] [Ob.arr true 1 (List.map intC (box a []))] (AV.sv (SV.one (AC.ref 0))), Orc.call [Mode.rd, Mode.rd] [] (AV.sv (lb (decide (box a [] = box a
 [])))), Orc.br [Orc.fin []] [Orc.call [Mode.rd, Mode.rd] [] (AV.sv (li (1 + (↑(List.length (seqM mkI cOne (box a []) 1)) : Int)))), Orc.bool false, Orc.br [Orc.fin []] [Orc.fin
 []]]]]]]]] (finK Try.prog [ResultVar.tmp 2] [] (AV.sv (lb true))) = (P_c_szCore a 1048576 ∧ (decide (sz (wC a) 1048576 < 0) = true → ObsEq [] [] ∧ AV.sv (lb true) = AV.sv (lb
 true)) ∧ (decide (sz (wC a) 1048576 < 0) = false → P_c_toCore a ∧ P_c_sBoxed a ∧ P_c_toCore a ∧ P_c_iBoxed a ∧ P_c_eqIntS (box a []) (box a []) ∧ ((!decide (box a [] = box a []))
 = true → ObsEq [] [] ∧ AV.sv (lb false) = AV.sv (lb true)) ∧ ((!decide (box a [] = box a [])) = false → P_c_toCore a ∧ P_c_eqCore a a ∧ ((!decide (a = a)) = true → ObsEq [] [] ∧
 AV.sv (lb false) = AV.sv (lb true)) ∧ ((!decide (a = a)) = false → P_c_markCore a 1 ∧ false = false ∧ P_c_eqIntS (box a []) (box a []) ∧ ((!decide (box a [] = box a [])) = true →
 ObsEq [] [] ∧ AV.sv (lb false) = AV.sv (lb true)) ∧ ((!decide (box a [] = box a [])) = false → P_c_markIntS (box a []) 1 ∧ P_c_heldIntS (seqM mkI cOne (box a []) 1) 1 ∧ false =
 false ∧ (decide (a1_c_LBoxed a) = true → ObsEq [] [] ∧ AV.sv (lb false) = AV.sv (lb true)) ∧ (decide (a1_c_LBoxed a) = false → P_c_toCore a ∧ P_c_iBoxed a ∧ P_c_eqIntS (box a [])
 (box a []) ∧ ((!decide (box a [] = box a [])) = true → ObsEq [] [] ∧ AV.sv (lb false) = AV.sv (lb true)) ∧ ((!decide (box a [] = box a [])) = false → P_c_heldIntS (seqM mkI cOne
 (box a []) 1) 1 ∧ false = false ∧ (decide (a1_c_LBoxed a) = true → ObsEq [] [] ∧ AV.sv (lb false) = AV.sv (lb true)) ∧ (decide (a1_c_LBoxed a) = false → ObsEq [] [] ∧ AV.sv (lb
 true) = AV.sv (lb true))))))))) := by kernel_rfl
theorem c_LBoxed (a : Core)  : P_c_LBoxed a := by
  refine CallOK.ofRun wide (run_c_LBoxed a) Try.call5 Try.func5 rfl rfl rfl ?_
  try delta a1_c_LBoxed
  have h1 := box_len a []
  have h2 := cC_le a
  have h3 := cC_eq a
  with_reducible repeat' (first | apply And.intro | exact flatI | exact flatS | exact rowLens | (intro; skip) | apply obsN | apply obsC | apply obA | apply obM | apply obB | apply svA | apply tupA | apply lcA | apply lcS | apply svC | apply liC | apply lbC | apply lsC | apply vIc | apply vBc | apply vSc | apply vLc | apply mapC | apply c_szCore | apply c_toCore | apply c_eqCore | apply c_sBoxed | apply c_iBoxed | apply c_eqIntS | apply c_markCore | apply c_markIntS | apply c_heldIntS)
  all_goals (try simp only [std, stdM] at *)
  all_goals (try (first | with_reducible rfl | omega | assumption | (refine (decide_eq_true ?_).symm; assumption) | (refine (decide_eq_false ?_).symm; assumption) | (refine rowGet ?_; (first | omega | (simp only [std, stdM]; omega) | grind)) | (refine getC ?_ rfl; (first | omega | (simp only [std, stdM]; omega) | grind)) | (refine fill_step ?_ ?_; (first | omega | (simp only [std, stdM]; omega) | grind); (first | rfl | exact (Row.eq _).trans rfl)) | (refine fill_init ?_; (first | rfl | exact (Row.eq _).trans rfl)) | (refine set_row ?_; (simp only [List.length_map, List.length_set, mkTo_len]; omega)) | (refine mkToRow ?_; (first | omega | (simp only [std, stdM]; omega) | grind)) | (refine mkTo_row ?_ rfl; (first | omega | (simp only [std, stdM]; omega) | grind)) | (refine mkTo_step ?_ ?_; (first | omega | (simp only [std, stdM]; omega) | grind); (first | grind [sz, seqM_idem, seqM_len, snocI, snocS, rowSnoc])) | grind [sz, seqM_idem, seqM_len, snocI, snocS, rowSnoc]))
end Go.Proofs.Ytamcedjjlokfhaa
