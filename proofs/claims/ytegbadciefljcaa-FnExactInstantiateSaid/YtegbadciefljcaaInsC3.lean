/- Part 3 of the proof: The program's Instantiate returns what the reference's returns, for all arguments. No condition. -/
import Derived.Test.YtegbadciefljcaaInsC2
section
namespace Go.Proofs.Ytegbadciefljcaa
open Go Go.Proofs.Ytegbadciefljcaa.Ab
set_option linter.unusedVariables false
set_option linter.unusedSimpArgs false
set_option maxHeartbeats 4000000
abbrev P_c_sBuild (t : Syntax) (C : List Capture) (q : Int) : Prop := CallOK Try.prog 48 [.box [vI q]] [syntaxA t, ll (C.map captureC), .one (.ptr 0 0)] (.box [vI (bld t C q).2.2] :: syntaxO (bld t C q).1) (.tup [syntaxR (bld t C q).1 1, lb (bld t C q).2.1])
def Tc_sBuild_sLb (t : Syntax) (C : List Capture) (q : Int) (k : Nat × Int × List Syntax) (x0 : SV) (x1 : SV) (x2 : AC) (x3 : Ob) : St := St.mk (regsOf 163 [(1, AV.sv (ll (List.map
 captureC C))), (2, AV.sv (SV.one (AC.ptr 0 0))), (3, AV.sv (SV.one (AC.ptr 1 0))), (6, AV.sv (SV.one (AC.ptr 2 0))), (9, AV.sv (SV.one (AC.ptr 3 0))), (10, AV.sv (li ((↑(Prod.fst
 k) : Int) + 1))), (11, AV.sv (SV.one (AC.ptr 4 0))), (14, AV.sv (li (if cnOK C (idsY (List.getD (Syntax.items t) (Prod.fst k) default) []) (List.length (idsY (List.getD
 (Syntax.items t) (Prod.fst k) default) [])) = true then cnN C (idsY (List.getD (Syntax.items t) (Prod.fst k) default) []) (List.length (idsY (List.getD (Syntax.items t) (Prod.fst
 k) default) [])) else 0))), (15, AV.sv x1), (16, AV.sv x0)]) [Ob.box [x2], Ob.box (vals (syntaxF t)), Ob.box [vI 0, vI 0, vS (ByteArray.mk #[]), AC.val (Cell.lit (Value.slice none
 0 0)), AC.val (Cell.lit (Value.slice none 0 0))], Ob.box [vI (Syntax.kind t), vI (Syntax.number t), vS (Syntax.text t), AC.val (Cell.lit (Value.slice none 0 0)), AC.ref 5], Ob.box
 (vals (syntaxF (List.getD (Syntax.items t) (Prod.fst k) default))), x3] 1 
def Lc_sBuild_sLb (t : Syntax) (C : List Capture) (q : Int) (k : Nat × Int × List Syntax) (k1 : Nat) : St := Tc_sBuild_sLb t C q k (li (↑k1 : Int)) (lb (Prod.fst (Prod.snd (bJ C
 (List.getD (Syntax.items t) (Prod.fst k) default) k1 (Prod.fst (Prod.snd k)) (Prod.snd (Prod.snd k)))))) (vI (Prod.snd (Prod.snd (bJ C (List.getD (Syntax.items t) (Prod.fst k)
 default) k1 (Prod.fst (Prod.snd k)) (Prod.snd (Prod.snd k)))))) (Ob.arr true 5 (List.map syntaxC (Prod.fst (bJ C (List.getD (Syntax.items t) (Prod.fst k) default) k1 (Prod.fst
 (Prod.snd k)) (Prod.snd (Prod.snd k)))))) 
def Ic_sBuild_sLb (t : Syntax) (C : List Capture) (q : Int) (k : Nat × Int × List Syntax) : Nat → St → Prop := Head (Lc_sBuild_sLb t C q k) (fun k1 => (k1 ≤ bN C (List.getD
 (Syntax.items t) (Prod.fst k) default) ∨ cnB C (List.getD (Syntax.items t) (Prod.fst k) default) = false) ∧ Prod.fst k + 1 < List.length (Syntax.items t) ∧ 0 ≤ Prod.fst (Prod.snd
 k) ∧ (↑(List.length (Prod.snd (Prod.snd k))) : Int) + Prod.fst (Prod.snd k) ≤ 2000) fun k1 => bN C (List.getD (Syntax.items t) (Prod.fst k) default) - k1 
def W0c_sBuild_sLb (t : Syntax) (C : List Capture) (q : Int) (k : Nat × Int × List Syntax) (x0 : SV) (x1 : AC) (x2 : Ob) : St := St.mk (regsOf 163 [(1, AV.sv (ll (List.map captureC
 C))), (2, AV.sv (SV.one (AC.ptr 0 0))), (3, AV.sv (SV.one (AC.ptr 1 0))), (6, AV.sv (SV.one (AC.ptr 2 0))), (9, AV.sv (SV.one (AC.ptr 3 0))), (10, AV.sv (li ((↑(Prod.fst k) : Int)
 + 1))), (15, AV.sv x0)]) [Ob.box [x1], Ob.box (vals (syntaxF t)), Ob.box [vI 0, vI 0, vS (ByteArray.mk #[]), AC.val (Cell.lit (Value.slice none 0 0)), AC.val (Cell.lit
 (Value.slice none 0 0))], Ob.box [vI (Syntax.kind t), vI (Syntax.number t), vS (Syntax.text t), AC.val (Cell.lit (Value.slice none 0 0)), AC.ref 4], x2] 1 
def Yc_sBuild_sLb (t : Syntax) (C : List Capture) (q : Int) (k : Nat × Int × List Syntax) : List (Prop × AEx × St) := [(True, AEx.exit 2, W0c_sBuild_sLb t C q k (lb (Prod.fst
 (Prod.snd (bR C (List.getD (Syntax.items t) (Prod.fst k) default) (Prod.fst (Prod.snd k)) (Prod.snd (Prod.snd k)))))) (vI (Prod.snd (Prod.snd (bR C (List.getD (Syntax.items t)
 (Prod.fst k) default) (Prod.fst (Prod.snd k)) (Prod.snd (Prod.snd k)))))) (Ob.arr true 5 (List.map syntaxC (Prod.fst (bR C (List.getD (Syntax.items t) (Prod.fst k) default)
 (Prod.fst (Prod.snd k)) (Prod.snd (Prod.snd k)))))))]
def Tc_sBuild_sLa (t : Syntax) (C : List Capture) (q : Int) (x0 : SV) (x1 : AC) (x2 : Ob) : St := St.mk (regsOf 163 [(1, AV.sv (ll (List.map captureC C))), (2, AV.sv (SV.one
 (AC.ptr 0 0))), (3, AV.sv (SV.one (AC.ptr 1 0))), (6, AV.sv (SV.one (AC.ptr 2 0))), (9, AV.sv (SV.one (AC.ptr 3 0))), (10, AV.sv x0)]) [Ob.box [x1], Ob.box (vals (syntaxF t)),
 Ob.box [vI 0, vI 0, vS (ByteArray.mk #[]), AC.val (Cell.lit (Value.slice none 0 0)), AC.val (Cell.lit (Value.slice none 0 0))], Ob.box [vI (Syntax.kind t), vI (Syntax.number t),
 vS (Syntax.text t), AC.val (Cell.lit (Value.slice none 0 0)), AC.ref 4], x2] 1 
def Lc_sBuild_sLa (t : Syntax) (C : List Capture) (q : Int) (k : Nat × Int × List Syntax) : St := Tc_sBuild_sLa t C q (li (↑(Prod.fst k) : Int)) (vI (Prod.fst (Prod.snd k)))
 (Ob.arr true 5 (List.map syntaxC (Prod.snd (Prod.snd k)))) 
def Ic_sBuild_sLa (t : Syntax) (C : List Capture) (q : Int) : Nat → St → Prop := Head (Lc_sBuild_sLa t C q) (fun k => List.length (Syntax.items t) ≥ Prod.fst k ∧ List.length
 (Syntax.items t) ≤ 1048576 ∧ blds (Syntax.items t) C (q - 1) [] = blds (List.drop (Prod.fst k) (Syntax.items t)) C (Prod.fst (Prod.snd k)) (Prod.snd (Prod.snd k)) ∧ 0 ≤ Prod.fst
 (Prod.snd k) ∧ (↑(List.length (Prod.snd (Prod.snd k))) : Int) + Prod.fst (Prod.snd k) ≤ 2000) fun k => List.length (Syntax.items t) - Prod.fst k 
def W0c_sBuild_sLa (t : Syntax) (C : List Capture) (q : Int) (x0 : AC) (x1 : Ob) : St := St.mk (regsOf 163 [(6, AV.sv (SV.one (AC.ptr 1 0))), (9, AV.sv (SV.one (AC.ptr 2 0)))])
 [Ob.box [x0], Ob.box [vI 0, vI 0, vS (ByteArray.mk #[]), AC.val (Cell.lit (Value.slice none 0 0)), AC.val (Cell.lit (Value.slice none 0 0))], Ob.box [vI (Syntax.kind t), vI
 (Syntax.number t), vS (Syntax.text t), AC.val (Cell.lit (Value.slice none 0 0)), AC.ref 3], x1] 1 
def W1c_sBuild_sLa (t : Syntax) (C : List Capture) (q : Int) (x0 : AC) (x1 : Ob) (x2 : SV) : St := St.mk (regsOf 163 [(6, AV.sv (SV.one (AC.ptr 1 0))), (7, AV.sv x2)]) [Ob.box
 [x0], x1] 1 
def Yc_sBuild_sLa (t : Syntax) (C : List Capture) (q : Int) : List (Prop × AEx × St) := [(Prod.fst (Prod.snd (blds (Syntax.items t) C (q - 1) [])) = true, AEx.exit 0,
 W0c_sBuild_sLa t C q (vI (Prod.snd (Prod.snd (blds (Syntax.items t) C (q - 1) [])))) (Ob.arr true 5 (List.map syntaxC (Prod.fst (blds (Syntax.items t) C (q - 1) []))))), (Prod.fst
 (Prod.snd (blds (Syntax.items t) C (q - 1) [])) = false, AEx.ret, W1c_sBuild_sLa t C q (vI (Prod.snd (Prod.snd (blds (Syntax.items t) C (q - 1) [])))) (Ob.box [vI 0, vI 0, vS (mkS
 []), AC.val (Cell.lit (Value.slice none 0 0)), AC.val (Cell.lit (Value.slice none 0 0))]) (lb false))]
theorem Hc_sBuild_sLb {t : Syntax} {C : List Capture} {q : Int} {k : Nat × Int × List Syntax} {k1 : Nat} {m : Nat} (h : (fun k1 => (k1 ≤ bN C (List.getD (Syntax.items t) (Prod.fst
 k) default) ∨ cnB C (List.getD (Syntax.items t) (Prod.fst k) default) = false) ∧ Prod.fst k + 1 < List.length (Syntax.items t) ∧ 0 ≤ Prod.fst (Prod.snd k) ∧ (↑(List.length
 (Prod.snd (Prod.snd k))) : Int) + Prod.fst (Prod.snd k) ≤ 2000) k1) (hm : (fun k1 => bN C (List.getD (Syntax.items t) (Prod.fst k) default) - k1) k1 = m) : Ic_sBuild_sLb t C q k m
 (Lc_sBuild_sLb t C q k k1) := hm ▸ Head.mk h
theorem Ec_sBuild_sLb {t : Syntax} {C : List Capture} {q : Int} {k : Nat × Int × List Syntax} {k1 : Nat} {x0 : SV} {x1 : SV} {x2 : AC} {x3 : Ob} (h0 : x0 = (li (↑k1 : Int))) (h1 :
 x1 = (lb (Prod.fst (Prod.snd (bJ C (List.getD (Syntax.items t) (Prod.fst k) default) k1 (Prod.fst (Prod.snd k)) (Prod.snd (Prod.snd k))))))) (h2 : x2 = (vI (Prod.snd (Prod.snd (bJ
 C (List.getD (Syntax.items t) (Prod.fst k) default) k1 (Prod.fst (Prod.snd k)) (Prod.snd (Prod.snd k))))))) (h3 : x3 = (Ob.arr true 5 (List.map syntaxC (Prod.fst (bJ C (List.getD
 (Syntax.items t) (Prod.fst k) default) k1 (Prod.fst (Prod.snd k)) (Prod.snd (Prod.snd k))))))) : Tc_sBuild_sLb t C q k x0 x1 x2 x3 = Lc_sBuild_sLb t C q k k1 := by
  rw [h0, h1, h2, h3]
  rfl
theorem EW0c_sBuild_sLb {t : Syntax} {C : List Capture} {q : Int} {k : Nat × Int × List Syntax} {x0 y0 : SV} {x1 y1 : AC} {x2 y2 : Ob} (h0 : x0 = y0) (h1 : x1 = y1) (h2 : x2 = y2)
 : W0c_sBuild_sLb t C q k x0 x1 x2 = W0c_sBuild_sLb t C q k y0 y1 y2 := by rw [h0, h1, h2]
abbrev a1__sBuild_sLb (t : Syntax) (k : Nat × Int × List Syntax) := (List.getD (Syntax.items t) (Prod.fst k) default)
abbrev a3__sBuild_sLb (t : Syntax) (C : List Capture) (k : Nat × Int × List Syntax) (k1 : Nat) := (bJ C (a1__sBuild_sLb t k) k1 (Prod.fst (Prod.snd k)) (Prod.snd (Prod.snd k)))
abbrev a2__sBuild_sLb (t : Syntax) (C : List Capture) (k : Nat × Int × List Syntax) (k1 : Nat) := (bld (a1__sBuild_sLb t k) (stpTo C k1 (idsY (a1__sBuild_sLb t k) []) (List.length
 (idsY (a1__sBuild_sLb t k) []))) (Prod.snd (Prod.snd (a3__sBuild_sLb t C k k1))))
abbrev a4__sBuild_sLb (t : Syntax) (C : List Capture) (k : Nat × Int × List Syntax) := (bR C (a1__sBuild_sLb t k) (Prod.fst (Prod.snd k)) (Prod.snd (Prod.snd k)))
theorem run_c_sBuild_sLb (t : Syntax) (C : List Capture) (q : Int) (k : Nat × Int × List Syntax) (k1 : Nat) : aexec Try.prog (loopAt Try.f48 1) (Lc_sBuild_sLb t C q k k1) [Orc.br
 [Orc.br [Orc.draw [(6, [0]), (10, [6])], Orc.call [Mode.rd, Mode.rd, Mode.rd] [] (AV.sv (ll (List.map captureC (stpTo C k1 (idsY (a1__sBuild_sLb t k) []) (List.length (idsY
 (a1__sBuild_sLb t k) [])))))), Orc.call [Mode.rd, Mode.rd, Mode.ptr] (Ob.box [vI (Prod.snd (Prod.snd (a2__sBuild_sLb t C k k1)))] :: syntaxO (Prod.fst (a2__sBuild_sLb t C k k1)))
 (AV.tup [syntaxR (Prod.fst (a2__sBuild_sLb t C k k1)) 1, lb (Prod.fst (Prod.snd (a2__sBuild_sLb t C k k1)))]), Orc.ghost (Ghost.sel [0, 1, 2, 3, 4, 19] [1, 2, 3, 6, 9, 10, 11, 14,
 15, 16]), Orc.goto (bN C (a1__sBuild_sLb t k) - (k1 + 1)) (Lc_sBuild_sLb t C q k (k1 + 1))] [Orc.ghost (Ghost.sel [0, 1, 2, 3, 5] [1, 2, 3, 6, 9, 10, 15]), Orc.out 0]] [Orc.bool
 false, Orc.ghost (Ghost.sel [0, 1, 2, 3, 5] [1, 2, 3, 6, 9, 10, 15]), Orc.out 0]] (loopK (Ic_sBuild_sLb t C q k) (Yc_sBuild_sLb t C q k) (bN C (a1__sBuild_sLb t k) - k1)) =
 ((decide ((↑k1 : Int) < if cnOK C (idsY (a1__sBuild_sLb t k) []) (List.length (idsY (a1__sBuild_sLb t k) [])) = true then cnN C (idsY (a1__sBuild_sLb t k) []) (List.length (idsY
 (a1__sBuild_sLb t k) [])) else 0) = true → (Prod.fst (Prod.snd (a3__sBuild_sLb t C k k1)) = true → P_c_sStep C (a1__sBuild_sLb t k) k1 ∧ P_c_sBuild (a1__sBuild_sLb t k) (stpTo C
 k1 (idsY (a1__sBuild_sLb t k) []) (List.length (idsY (a1__sBuild_sLb t k) []))) (Prod.snd (Prod.snd (a3__sBuild_sLb t C k k1))) ∧ (List.length (List.map syntaxC (Prod.fst
 (a3__sBuild_sLb t C k k1))) + 1) * 80 ≤ 140737488355328 ∧ rng IntKind.i64 ((↑k1 : Int) + 1) ∧ bN C (a1__sBuild_sLb t k) - (k1 + 1) < bN C (a1__sBuild_sLb t k) - k1 ∧ Tc_sBuild_sLb
 t C q k (li ((↑k1 : Int) + 1)) (lb (Prod.fst (Prod.snd (a2__sBuild_sLb t C k k1)))) (vI (Prod.snd (Prod.snd (a2__sBuild_sLb t C k k1)))) (Ob.arr true 5 (List.map syntaxC (Prod.fst
 (a3__sBuild_sLb t C k k1)) ++ [syntaxF (Prod.fst (a2__sBuild_sLb t C k k1))])) = Lc_sBuild_sLb t C q k (k1 + 1) ∧ Ic_sBuild_sLb t C q k (bN C (a1__sBuild_sLb t k) - (k1 + 1))
 (Lc_sBuild_sLb t C q k (k1 + 1))) ∧ (Prod.fst (Prod.snd (a3__sBuild_sLb t C k k1)) = false → True ∧ W0c_sBuild_sLb t C q k (lb (Prod.fst (Prod.snd (a3__sBuild_sLb t C k k1)))) (vI
 (Prod.snd (Prod.snd (a3__sBuild_sLb t C k k1)))) (Ob.arr true 5 (List.map syntaxC (Prod.fst (a3__sBuild_sLb t C k k1)))) = W0c_sBuild_sLb t C q k (lb (Prod.fst (Prod.snd
 (a4__sBuild_sLb t C k)))) (vI (Prod.snd (Prod.snd (a4__sBuild_sLb t C k)))) (Ob.arr true 5 (List.map syntaxC (Prod.fst (a4__sBuild_sLb t C k)))))) ∧ (decide ((↑k1 : Int) < if cnOK
 C (idsY (a1__sBuild_sLb t k) []) (List.length (idsY (a1__sBuild_sLb t k) [])) = true then cnN C (idsY (a1__sBuild_sLb t k) []) (List.length (idsY (a1__sBuild_sLb t k) [])) else 0)
 = false → false = false ∧ True ∧ W0c_sBuild_sLb t C q k (lb (Prod.fst (Prod.snd (a3__sBuild_sLb t C k k1)))) (vI (Prod.snd (Prod.snd (a3__sBuild_sLb t C k k1)))) (Ob.arr true 5
 (List.map syntaxC (Prod.fst (a3__sBuild_sLb t C k k1)))) = W0c_sBuild_sLb t C q k (lb (Prod.fst (Prod.snd (a4__sBuild_sLb t C k)))) (vI (Prod.snd (Prod.snd (a4__sBuild_sLb t C
 k)))) (Ob.arr true 5 (List.map syntaxC (Prod.fst (a4__sBuild_sLb t C k)))))) := by kernel_rfl
theorem Hc_sBuild_sLa {t : Syntax} {C : List Capture} {q : Int} {k : Nat × Int × List Syntax} {m : Nat} (h : (fun k => List.length (Syntax.items t) ≥ Prod.fst k ∧ List.length
 (Syntax.items t) ≤ 1048576 ∧ blds (Syntax.items t) C (q - 1) [] = blds (List.drop (Prod.fst k) (Syntax.items t)) C (Prod.fst (Prod.snd k)) (Prod.snd (Prod.snd k)) ∧ 0 ≤ Prod.fst
 (Prod.snd k) ∧ (↑(List.length (Prod.snd (Prod.snd k))) : Int) + Prod.fst (Prod.snd k) ≤ 2000) k) (hm : (fun k => List.length (Syntax.items t) - Prod.fst k) k = m) : Ic_sBuild_sLa
 t C q m (Lc_sBuild_sLa t C q k) := hm ▸ Head.mk h
theorem Ec_sBuild_sLa {t : Syntax} {C : List Capture} {q : Int} {k : Nat × Int × List Syntax} {x0 : SV} {x1 : AC} {x2 : Ob} (h0 : x0 = (li (↑(Prod.fst k) : Int))) (h1 : x1 = (vI
 (Prod.fst (Prod.snd k)))) (h2 : x2 = (Ob.arr true 5 (List.map syntaxC (Prod.snd (Prod.snd k))))) : Tc_sBuild_sLa t C q x0 x1 x2 = Lc_sBuild_sLa t C q k := by
  rw [h0, h1, h2]
  rfl
theorem EW0c_sBuild_sLa {t : Syntax} {C : List Capture} {q : Int} {x0 y0 : AC} {x1 y1 : Ob} (h0 : x0 = y0) (h1 : x1 = y1) : W0c_sBuild_sLa t C q x0 x1 = W0c_sBuild_sLa t C q y0 y1
 := by rw [h0, h1]
theorem EW1c_sBuild_sLa {t : Syntax} {C : List Capture} {q : Int} {x0 y0 : AC} {x1 y1 : Ob} {x2 y2 : SV} (h0 : x0 = y0) (h1 : x1 = y1) (h2 : x2 = y2) : W1c_sBuild_sLa t C q x0 x1
 x2 = W1c_sBuild_sLa t C q y0 y1 y2 := by rw [h0, h1, h2]
abbrev a1__sBuild_sLa (t : Syntax) (k : Nat × Int × List Syntax) := (List.getD (Syntax.items t) (Prod.fst k) default)
abbrev a3__sBuild_sLa (t : Syntax) (C : List Capture) (k : Nat × Int × List Syntax) := (bld (a1__sBuild_sLa t k) C (Prod.fst (Prod.snd k)))
abbrev a8__sBuild_sLa (t : Syntax) (C : List Capture) (k : Nat × Int × List Syntax) := (Prod.fst k + 1, Prod.snd (Prod.snd (a3__sBuild_sLa t C k)), Prod.snd (Prod.snd k) ++
 [Prod.fst (a3__sBuild_sLa t C k)])
abbrev a2__sBuild_sLa (t : Syntax) (C : List Capture) (q : Int) (k : Nat × Int × List Syntax) := ((!Prod.fst (Prod.snd (a3__sBuild_sLa t C k))) = false → (List.length (List.map
 syntaxC (Prod.snd (Prod.snd k))) + 1) * 80 ≤ 140737488355328 ∧ rng IntKind.i64 ((↑(Prod.fst k) : Int) + 1) ∧ List.length (Syntax.items t) - (Prod.fst k + 1) < List.length
 (Syntax.items t) - Prod.fst k ∧ Tc_sBuild_sLa t C q (li ((↑(Prod.fst k) : Int) + 1)) (vI (Prod.snd (Prod.snd (a3__sBuild_sLa t C k)))) (Ob.arr true 5 (List.map syntaxC (Prod.snd
 (Prod.snd k)) ++ [syntaxF (Prod.fst (a3__sBuild_sLa t C k))])) = Lc_sBuild_sLa t C q (a8__sBuild_sLa t C k) ∧ Ic_sBuild_sLa t C q (List.length (Syntax.items t) - (Prod.fst k + 1))
 (Lc_sBuild_sLa t C q (a8__sBuild_sLa t C k)))
abbrev a4__sBuild_sLa (t : Syntax) (C : List Capture) (k : Nat × Int × List Syntax) := (bR C (a1__sBuild_sLa t k) (Prod.fst (Prod.snd k)) (Prod.snd (Prod.snd k)))
abbrev a5__sBuild_sLa (t : Syntax) (C : List Capture) (q : Int) (k : Nat × Int × List Syntax) := ((!Prod.fst (Prod.snd (a3__sBuild_sLa t C k))) = true → Prod.fst (Prod.snd (blds
 (Syntax.items t) C (q - 1) [])) = false ∧ W1c_sBuild_sLa t C q (vI (Prod.snd (Prod.snd (a3__sBuild_sLa t C k)))) (Ob.box [vI 0, vI 0, vS (ByteArray.mk #[]), AC.val (Cell.lit
 (Value.slice none 0 0)), AC.val (Cell.lit (Value.slice none 0 0))]) (lb false) = W1c_sBuild_sLa t C q (vI (Prod.snd (Prod.snd (blds (Syntax.items t) C (q - 1) [])))) (Ob.box [vI
 0, vI 0, vS (mkS []), AC.val (Cell.lit (Value.slice none 0 0)), AC.val (Cell.lit (Value.slice none 0 0))]) (lb false))
abbrev a6__sBuild_sLa (t : Syntax) (C : List Capture) (q : Int) (k : Nat × Int × List Syntax) := [Orc.ghost (Ghost.sel [0, 1, 2, 3, 11] [1, 2, 3, 6, 9, 10]), Orc.goto (List.length
 (Syntax.items t) - (Prod.fst k + 1)) (Lc_sBuild_sLa t C q (a8__sBuild_sLa t C k))]
abbrev a7__sBuild_sLa (t : Syntax) (k : Nat × Int × List Syntax) := (List.getD (Syntax.items t) (Prod.fst k + 1) default)
theorem run_c_sBuild_sLa (t : Syntax) (C : List Capture) (q : Int) (k : Nat × Int × List Syntax) : aexec Try.prog (loopAt Try.f48 0) (Lc_sBuild_sLa t C q k) [Orc.br [Orc.cells
 (syntaxF (a1__sBuild_sLa t k)), Orc.br [Orc.bool true, Orc.call [Mode.rd, Mode.rd, Mode.ptr] (Ob.box [vI (Prod.snd (Prod.snd (a3__sBuild_sLa t C k)))] :: syntaxO (Prod.fst
 (a3__sBuild_sLa t C k))) (AV.tup [syntaxR (Prod.fst (a3__sBuild_sLa t C k)) 1, lb (Prod.fst (Prod.snd (a3__sBuild_sLa t C k)))]), Orc.br [Orc.ghost (Ghost.sel [0, 2] [6, 7]),
 Orc.out 1] (a6__sBuild_sLa t C q k)] [Orc.cells (syntaxF (a7__sBuild_sLa t k)), Orc.call [Mode.rd] [] (AV.sv (lb (isDots (a7__sBuild_sLa t k)))), Orc.br [Orc.call [Mode.rd,
 Mode.rd, Mode.ptr] (Ob.box [vI (Prod.snd (Prod.snd (a3__sBuild_sLa t C k)))] :: syntaxO (Prod.fst (a3__sBuild_sLa t C k))) (AV.tup [syntaxR (Prod.fst (a3__sBuild_sLa t C k)) 1, lb
 (Prod.fst (Prod.snd (a3__sBuild_sLa t C k)))]), Orc.br [Orc.ghost (Ghost.sel [0, 2] [6, 7]), Orc.out 1] (a6__sBuild_sLa t C q k)] [Orc.call [Mode.rd, Mode.rd] [] (AV.tup [li (if
 cnOK C (idsY (a1__sBuild_sLa t k) []) (List.length (idsY (a1__sBuild_sLa t k) [])) = true then cnN C (idsY (a1__sBuild_sLa t k) []) (List.length (idsY (a1__sBuild_sLa t k) []))
 else 0), lb (cnOK C (idsY (a1__sBuild_sLa t k) []) (List.length (idsY (a1__sBuild_sLa t k) [])) && decide (0 ≤ cnN C (idsY (a1__sBuild_sLa t k) []) (List.length (idsY
 (a1__sBuild_sLa t k) []))))]), Orc.ghost (Ghost.sel [0, 1, 2, 3, 5, 4] [1, 2, 3, 6, 9, 10, 11, 14, 15, 16]), Orc.loop (bN C (a1__sBuild_sLa t k) - 0) (Lc_sBuild_sLb t C q k 0)
 (Ic_sBuild_sLb t C q k) [(True, AEx.exit 2, W0c_sBuild_sLb t C q k (lb (Prod.fst (Prod.snd (a4__sBuild_sLa t C k)))) (vI (Prod.snd (Prod.snd (a4__sBuild_sLa t C k)))) (Ob.arr true
 5 (List.map syntaxC (Prod.fst (a4__sBuild_sLa t C k)))), [Orc.br [Orc.ghost (Ghost.sel [0, 2] [6, 7]), Orc.out 1] [Orc.ghost (Ghost.sel [0, 1, 2, 3, 4] [1, 2, 3, 6, 9, 10]),
 Orc.goto (List.length (Syntax.items t) - (Prod.fst k + 1 + 1)) (Lc_sBuild_sLa t C q (Prod.fst k + 1 + 1, Prod.snd (Prod.snd (a4__sBuild_sLa t C k)), Prod.fst (a4__sBuild_sLa t C
 k)))]])]]]] [Orc.ghost (Ghost.sel [0, 2, 3, 4] [6, 9]), Orc.out 0]] (loopK (Ic_sBuild_sLa t C q) (Yc_sBuild_sLa t C q) (List.length (Syntax.items t) - Prod.fst k)) = (List.length
 (List.map syntaxC (Syntax.items t)) ≤ 9223372036854775807 → (decide ((↑(Prod.fst k) : Int) < (↑(List.length (List.map syntaxC (Syntax.items t))) : Int)) = true → (0 ≤ (↑(Prod.fst
 k) : Int) ∧ (List.map syntaxC (Syntax.items t))[Int.toNat (↑(Prod.fst k) : Int)]? = some (syntaxF (a1__sBuild_sLa t k))) ∧ rng IntKind.i64 ((↑(Prod.fst k) : Int) + 1) ∧
 (List.length (List.map syntaxC (Syntax.items t)) ≤ 9223372036854775807 → (decide ((↑(List.length (List.map syntaxC (Syntax.items t))) : Int) ≤ (↑(Prod.fst k) : Int) + 1) = true →
 true = true ∧ P_c_sBuild (a1__sBuild_sLa t k) C (Prod.fst (Prod.snd k)) ∧ (a5__sBuild_sLa t C q k) ∧ (a2__sBuild_sLa t C q k)) ∧ (decide ((↑(List.length (List.map syntaxC
 (Syntax.items t))) : Int) ≤ (↑(Prod.fst k) : Int) + 1) = false → rng IntKind.i64 ((↑(Prod.fst k) : Int) + 1) ∧ (0 ≤ (↑(Prod.fst k) : Int) + 1 ∧ (List.map syntaxC (Syntax.items
 t))[Int.toNat ((↑(Prod.fst k) : Int) + 1)]? = some (syntaxF (a7__sBuild_sLa t k))) ∧ P_c_sDots (a7__sBuild_sLa t k) ∧ ((!isDots (a7__sBuild_sLa t k)) = true → P_c_sBuild
 (a1__sBuild_sLa t k) C (Prod.fst (Prod.snd k)) ∧ (a5__sBuild_sLa t C q k) ∧ (a2__sBuild_sLa t C q k)) ∧ ((!isDots (a7__sBuild_sLa t k)) = false → rng IntKind.i64 ((↑(Prod.fst k) :
 Int) + 1) ∧ P_c_sCountC C (a1__sBuild_sLa t k) ∧ Tc_sBuild_sLb t C q k (li 0) (lb (cnOK C (idsY (a1__sBuild_sLa t k) []) (List.length (idsY (a1__sBuild_sLa t k) [])) && decide (0
 ≤ cnN C (idsY (a1__sBuild_sLa t k) []) (List.length (idsY (a1__sBuild_sLa t k) []))))) (vI (Prod.fst (Prod.snd k))) (Ob.arr true 5 (List.map syntaxC (Prod.snd (Prod.snd k)))) =
 Lc_sBuild_sLb t C q k 0 ∧ Ic_sBuild_sLb t C q k (bN C (a1__sBuild_sLa t k) - 0) (Lc_sBuild_sLb t C q k 0) ∧ LoopSem Try.prog (loopAt Try.f48 1) (Ic_sBuild_sLb t C q k)
 (Yc_sBuild_sLb t C q k) ∧ (True → ((!Prod.fst (Prod.snd (a4__sBuild_sLa t C k))) = true → Prod.fst (Prod.snd (blds (Syntax.items t) C (q - 1) [])) = false ∧ W1c_sBuild_sLa t C q
 (vI (Prod.snd (Prod.snd (a4__sBuild_sLa t C k)))) (Ob.box [vI 0, vI 0, vS (ByteArray.mk #[]), AC.val (Cell.lit (Value.slice none 0 0)), AC.val (Cell.lit (Value.slice none 0 0))])
 (lb false) = W1c_sBuild_sLa t C q (vI (Prod.snd (Prod.snd (blds (Syntax.items t) C (q - 1) [])))) (Ob.box [vI 0, vI 0, vS (mkS []), AC.val (Cell.lit (Value.slice none 0 0)),
 AC.val (Cell.lit (Value.slice none 0 0))]) (lb false)) ∧ ((!Prod.fst (Prod.snd (a4__sBuild_sLa t C k))) = false → rng IntKind.i64 ((↑(Prod.fst k) : Int) + 1 + 1) ∧ List.length
 (Syntax.items t) - (Prod.fst k + 1 + 1) < List.length (Syntax.items t) - Prod.fst k ∧ Tc_sBuild_sLa t C q (li ((↑(Prod.fst k) : Int) + 1 + 1)) (vI (Prod.snd (Prod.snd
 (a4__sBuild_sLa t C k)))) (Ob.arr true 5 (List.map syntaxC (Prod.fst (a4__sBuild_sLa t C k)))) = Lc_sBuild_sLa t C q (Prod.fst k + 1 + 1, Prod.snd (Prod.snd (a4__sBuild_sLa t C
 k)), Prod.fst (a4__sBuild_sLa t C k)) ∧ Ic_sBuild_sLa t C q (List.length (Syntax.items t) - (Prod.fst k + 1 + 1)) (Lc_sBuild_sLa t C q (Prod.fst k + 1 + 1, Prod.snd (Prod.snd
 (a4__sBuild_sLa t C k)), Prod.fst (a4__sBuild_sLa t C k))))) ∧ True)))) ∧ (decide ((↑(Prod.fst k) : Int) < (↑(List.length (List.map syntaxC (Syntax.items t))) : Int)) = false →
 Prod.fst (Prod.snd (blds (Syntax.items t) C (q - 1) [])) = true ∧ W0c_sBuild_sLa t C q (vI (Prod.fst (Prod.snd k))) (Ob.arr true 5 (List.map syntaxC (Prod.snd (Prod.snd k)))) =
 W0c_sBuild_sLa t C q (vI (Prod.snd (Prod.snd (blds (Syntax.items t) C (q - 1) [])))) (Ob.arr true 5 (List.map syntaxC (Prod.fst (blds (Syntax.items t) C (q - 1) [])))))) := by
 kernel_rfl
theorem Sc_sBuild_sLb (t : Syntax) (C : List Capture) (q : Int) (h : 0 ≤ q ∧ q ≤ 2000 ∧ wY t ≤ 1048576 ∧ List.length C ≤ 1048576) (hC : ∀ (z : Capture), z ∈ C → wP z ≤ 1048576) (ih
 : ∀ (z : Syntax), z ∈ Syntax.items t → ∀ (C : List Capture) (q : Int), 0 ≤ q ∧ q ≤ 2000 ∧ wY z ≤ 1048576 ∧ List.length C ≤ 1048576 → (∀ (z : Capture), z ∈ C → wP z ≤ 1048576) →
 P_c_sBuild z C q) (k : Nat × Int × List Syntax)  : LoopSem Try.prog (loopAt Try.f48 1) (Ic_sBuild_sLb t C q k) (Yc_sBuild_sLb t C q k) := by
  refine LoopSem.ofHead wide fun k1 h => ⟨_, _, run_c_sBuild_sLb t C q k k1, ?_⟩
  try delta a1__sBuild_sLb a3__sBuild_sLb a2__sBuild_sLb a4__sBuild_sLb
  obtain ⟨i, m, O⟩ := k
  simp only at *
  have g1 := bJ_bd C (t.items.getD i default) k1 m O
  have g2 := bJ_step C (t.items.getD i default) k1 m O
  have g3 := @bR_stop C (t.items.getD i default) k1 m O
  have g4 : ¬ ((k1 : Int) < if cnOK C (idsY (t.items.getD i default) []) (idsY (t.items.getD i default) []).length = true then cnN C (idsY (t.items.getD i default) []) (idsY (t.items.getD i default) []).length else 0) → bR C (t.items.getD i default) m O = bJ C (t.items.getD i default) k1 m O := fun b => by
    cases hok : (bJ C (t.items.getD i default) k1 m O).2.1 with
    | false => exact g3 h.1 hok
    | true => exact bR_done h.1 (by omega) hok b
  have g5 := @cnB_each C (t.items.getD i default)
  have g6 : (bJ C (t.items.getD i default) k1 m O).2.1 = true → ((k1 : Int) < if cnOK C (idsY (t.items.getD i default) []) (idsY (t.items.getD i default) []).length = true then cnN C (idsY (t.items.getD i default) []) (idsY (t.items.getD i default) []).length else 0) → k1 < bN C (t.items.getD i default) ∧ bN C (t.items.getD i default) ≤ 1048576 ∧ cnB C (t.items.getD i default) = true := fun a b => ⟨cnB_lt (g1 (by omega) a).2.2 b, bN_le hC (g1 (by omega) a).2.2, (g1 (by omega) a).2.2⟩
  have g7 := stpX_len C (t.items.getD i default) k1
  have g8 := @size_item t i
  with_reducible repeat' (first | apply And.intro | exact flatI | exact flatS | exact rowLens | exact ih | (intro; skip) | apply obsN | apply obsC | apply obA | apply obM | apply obB | apply svA | apply tupA | apply lcA | apply lcS | apply svC | apply liC | apply lbC | apply lsC | apply vIc | apply vBc | apply vSc | apply vLc | apply mapC | apply Hc_sBuild_sLa | apply Ec_sBuild_sLa | apply Hc_sBuild_sLb | apply Ec_sBuild_sLb | apply EW0c_sBuild_sLb | apply EW0c_sBuild_sLa | apply EW1c_sBuild_sLa | apply c_sFind | apply c_sDots | apply c_sCopyY | apply c_sFewY | apply c_sCountC | apply c_sStep | apply ih)
  all_goals (try simp only [std] at *)
  all_goals (try (first | with_reducible apply c_sFind | with_reducible apply c_sDots | with_reducible apply c_sCopyY | with_reducible apply c_sFewY | with_reducible apply c_sCountC | with_reducible apply c_sStep | with_reducible apply ih | (simp only [← List.map_append]; first | with_reducible apply c_sFind | with_reducible apply c_sDots | with_reducible apply c_sCopyY | with_reducible apply c_sFewY | with_reducible apply c_sCountC | with_reducible apply c_sStep | with_reducible apply ih)))
  all_goals (try (first | with_reducible rfl | omega | assumption | (refine (decide_eq_true ?_).symm; assumption) | (refine (decide_eq_false ?_).symm; assumption) | (refine rowGet ?_; (first | omega | (simp only [std]; omega) | grind)) | (refine getC ?_ rfl; (first | omega | (simp only [std]; omega) | grind)) | (show (_ : St) = _; rfl)))
  all_goals (try first | exact getD_mem' (by omega) | exact stpX_w hC _ _ _ (by assumption) | (rw [g2 (by assumption)]; done) | (rw [g2 (by assumption)]; exact rowSnoc (C := syntaxC) _ _) | (rw [g4 (by assumption)]; done) | (rw [g3 h.1 (by assumption)]; done) | exact Nat.le_trans (Nat.le_of_eq (stpX_len C _ _)) (by omega))
  all_goals (try (have G := g6 (by assumption) (by assumption); have G1 := g1 (by omega) (by assumption); first | omega | (rw [g5 G.2.2 (by assumption) (by assumption) (by assumption)]; exact G.1) | (refine Nat.le_of_eq_of_le g7 ?_; omega)))
theorem Sc_sBuild_sLa (t : Syntax) (C : List Capture) (q : Int) (h : 0 ≤ q ∧ q ≤ 2000 ∧ wY t ≤ 1048576 ∧ List.length C ≤ 1048576) (hC : ∀ (z : Capture), z ∈ C → wP z ≤ 1048576) (ih
 : ∀ (z : Syntax), z ∈ Syntax.items t → ∀ (C : List Capture) (q : Int), 0 ≤ q ∧ q ≤ 2000 ∧ wY z ≤ 1048576 ∧ List.length C ≤ 1048576 → (∀ (z : Capture), z ∈ C → wP z ≤ 1048576) →
 P_c_sBuild z C q)  : LoopSem Try.prog (loopAt Try.f48 0) (Ic_sBuild_sLa t C q) (Yc_sBuild_sLa t C q) := by
  refine LoopSem.ofHead wide fun k h => ⟨_, _, run_c_sBuild_sLa t C q k, ?_⟩
  try delta a1__sBuild_sLa a3__sBuild_sLa a8__sBuild_sLa a2__sBuild_sLa a4__sBuild_sLa a5__sBuild_sLa a6__sBuild_sLa a7__sBuild_sLa
  obtain ⟨i, m, O⟩ := k
  simp only at *
  have H := h.2.2.1
  have p1 : i < t.items.length → (t.items.length ≤ i + 1 ∨ isDots (t.items.getD (i + 1) default) = false) → (bld (t.items.getD i default) C m).2.1 = true → blds (t.items.drop i) C m O = blds (t.items.drop (i + 1)) C (bld (t.items.getD i default) C m).2.2 (O ++ [(bld (t.items.getD i default) C m).1]) := fun a b c => by rw [blds_plain a b, if_pos c]
  have p2 : i < t.items.length → (t.items.length ≤ i + 1 ∨ isDots (t.items.getD (i + 1) default) = false) → (bld (t.items.getD i default) C m).2.1 = false → blds (t.items.drop i) C m O = (O, false, (bld (t.items.getD i default) C m).2.2) := fun a b c => by rw [blds_plain a b, if_neg (by rw [c]; decide)]
  have d1 : i + 1 < t.items.length → isDots (t.items.getD (i + 1) default) = true → (bR C (t.items.getD i default) m O).2.1 = true → blds (t.items.drop i) C m O = blds (t.items.drop (i + 1 + 1)) C (bR C (t.items.getD i default) m O).2.2 (bR C (t.items.getD i default) m O).1 := fun a b c => by rw [blds_dots a b, if_pos c]
  have d2 : i + 1 < t.items.length → isDots (t.items.getD (i + 1) default) = true → (bR C (t.items.getD i default) m O).2.1 = false → blds (t.items.drop i) C m O = bR C (t.items.getD i default) m O := fun a b c => by rw [blds_dots a b, if_neg (by rw [c]; decide)]
  have e1 : t.items.length ≤ i → blds (t.items.drop i) C m O = (O, true, m) := fun a => blds_end a
  have g4 := bld_bd (t.items.getD i default) C m
  have g6 : 0 ≤ m → (bR C (t.items.getD i default) m O).2.1 = true → 0 ≤ (bR C (t.items.getD i default) m O).2.2 ∧ ((bR C (t.items.getD i default) m O).1.length : Int) + (bR C (t.items.getD i default) m O).2.2 ≤ O.length + m := fun a b => ⟨(bJ_bd C _ _ m O a b).1, (bJ_bd C _ _ m O a b).2.1⟩
  have g8 := @size_item t i
  have g9 : (cnOK C (idsY (t.items.getD i default) []) (idsY (t.items.getD i default) []).length && decide (0 ≤ cnN C (idsY (t.items.getD i default) []) (idsY (t.items.getD i default) []).length)) = (bJ C (t.items.getD i default) 0 m O).2.1 := by rw [bJ_zero]; rfl
  have g10 : m = (bJ C (t.items.getD i default) 0 m O).2.2 := by rw [bJ_zero]
  have g11 : O = (bJ C (t.items.getD i default) 0 m O).1 := by rw [bJ_zero]
  with_reducible repeat' (first | apply And.intro | exact flatI | exact flatS | exact rowLens | exact ih | (intro; skip) | apply obsN | apply obsC | apply obA | apply obM | apply obB | apply svA | apply tupA | apply lcA | apply lcS | apply svC | apply liC | apply lbC | apply lsC | apply vIc | apply vBc | apply vSc | apply vLc | apply mapC | apply Hc_sBuild_sLa | apply Ec_sBuild_sLa | apply Hc_sBuild_sLb | apply Ec_sBuild_sLb | apply Sc_sBuild_sLb | apply EW0c_sBuild_sLb | apply EW0c_sBuild_sLa | apply EW1c_sBuild_sLa | apply c_sFind | apply c_sDots | apply c_sCopyY | apply c_sFewY | apply c_sCountC | apply c_sStep | apply ih)
  all_goals (try simp only [std] at *)
  all_goals (try (first | with_reducible apply c_sFind | with_reducible apply c_sDots | with_reducible apply c_sCopyY | with_reducible apply c_sFewY | with_reducible apply c_sCountC | with_reducible apply c_sStep | with_reducible apply ih | (simp only [← List.map_append]; first | with_reducible apply c_sFind | with_reducible apply c_sDots | with_reducible apply c_sCopyY | with_reducible apply c_sFewY | with_reducible apply c_sCountC | with_reducible apply c_sStep | with_reducible apply ih)))
  all_goals (try (first | with_reducible rfl | omega | assumption | (refine (decide_eq_true ?_).symm; assumption) | (refine (decide_eq_false ?_).symm; assumption) | (refine rowGet ?_; (first | omega | (simp only [std]; omega) | grind)) | (refine getC ?_ rfl; (first | omega | (simp only [std]; omega) | grind)) | (show (_ : St) = _; rfl)))
  all_goals (try simp only [Bool.not_eq_true', Bool.not_eq_false', decide_eq_false_iff_not, decide_eq_true_eq, Decidable.not_not] at *)
  all_goals (try first | exact getD_mem' (by omega) | exact hC _ (by assumption) | exact g9 | exact g10 | exact g11 | exact rowSnoc (C := syntaxC) _ _)
  all_goals (try first | (rw [H, p1 (by omega) (by first | exact Or.inl (by omega) | exact Or.inr (by assumption)) (by assumption)]) | (rw [H, p2 (by omega) (by first | exact Or.inl (by omega) | exact Or.inr (by assumption)) (by assumption)]) | (rw [H, d1 (by omega) (by assumption) (by assumption)]) | (rw [H, d2 (by omega) (by assumption) (by assumption)]; assumption) | (rw [H, d2 (by omega) (by assumption) (by assumption)]) | (rw [H, e1 (by omega)]))
  all_goals (try first | (have := g4 (by omega) (by assumption); first | omega | (simp only [List.length_singleton]; omega)) | (have := g6 (by omega) (by assumption); omega))
abbrev a1_c_sBuild_s (t : Syntax) (C : List Capture) (q : Int) := [SV.agg [vI (Syntax.kind (Prod.fst (bld t C q))), vI (Syntax.number (Prod.fst (bld t C q))), vS (Syntax.text
 (Prod.fst (bld t C q))), AC.ref 1, AC.ref 2], lb (Prod.fst (Prod.snd (bld t C q)))]
abbrev a2_c_sBuild_s (t : Syntax) (C : List Capture) (q : Int) := [Ob.box [vI (Prod.snd (Prod.snd (bld t C q)))], Ob.arr true 1 (List.map intC (Syntax.scopes (Prod.fst (bld t C
 q)))), Ob.arr true 5 (List.map syntaxC (Syntax.items (Prod.fst (bld t C q))))]
abbrev a3_c_sBuild_s (t : Syntax) (C : List Capture) := (List.getD C (Int.toNat (fnd C t)) default)
abbrev a4_c_sBuild_s (t : Syntax) (C : List Capture) (q : Int) := (Prod.snd (blds (Syntax.items t) C (q - 1) []))
theorem run_c_sBuild_s (t : Syntax) (C : List Capture) (q : Int) : aexec Try.prog (Option.getD (Func.body Try.f48) Code.skip) (entry [Ob.box [vI q]] [syntaxA t, ll (List.map
 captureC C), SV.one (AC.ptr 0 0)] 163) [Orc.br [Orc.ghost (Ghost.nilbox 2 3 true 1), Orc.ghost (Ghost.nilbox 2 4 true 5), Orc.fin [3, 4]] [Orc.br [Orc.call [Mode.rd, Mode.rd] []
 (AV.sv (li (fnd C t))), Orc.call [Mode.rd] [] (AV.sv (lb (isDots t))), Orc.br [Orc.bool true, Orc.draw [(5, [2])], Orc.call [Mode.rd] (syntaxO t) (AV.sv (syntaxR t 0)), Orc.call
 [Mode.rd] [] (AV.sv (lb (isDots t))), Orc.fin [3, 4]] [Orc.br [Orc.draw [(5, [2])], Orc.call [Mode.rd] (syntaxO t) (AV.sv (syntaxR t 0)), Orc.call [Mode.rd] [] (AV.sv (lb (isDots
 t))), Orc.fin [3, 4]] [Orc.cells (captureF (a3_c_sBuild_s t C)), Orc.br [Orc.bool true, Orc.ghost (Ghost.nilbox 2 3 true 1), Orc.ghost (Ghost.nilbox 2 4 true 5), Orc.fin [3, 4]]
 [Orc.cells (captureF (a3_c_sBuild_s t C)), Orc.call [Mode.rd, Mode.ptr] [Ob.box [vI (max (q - 1 + 1 - (↑(sizeY (Capture.form (a3_c_sBuild_s t C))) : Int)) (-1 : Int))]] (AV.sv (lb
 (decide ((↑(sizeY (Capture.form (a3_c_sBuild_s t C))) : Int) ≤ q - 1 + 1)))), Orc.br [Orc.ghost (Ghost.nilbox 2 3 true 1), Orc.ghost (Ghost.nilbox 2 4 true 5), Orc.fin [3, 4]]
 [Orc.cells (captureF (a3_c_sBuild_s t C)), Orc.call [Mode.rd] (syntaxO (Capture.form (a3_c_sBuild_s t C))) (AV.sv (syntaxR (Capture.form (a3_c_sBuild_s t C)) 0)), Orc.fin [3,
 4]]]]]] [Orc.ghost (Ghost.nilbox 3 4 true 5), Orc.ghost (Ghost.sel [0, 1, 2, 3, 4] [1, 2, 3, 6, 9, 10]), Orc.loop (List.length (Syntax.items t) - 0) (Lc_sBuild_sLa t C q (0, q -
 1, [])) (Ic_sBuild_sLa t C q) [(Prod.fst (a4_c_sBuild_s t C q) = true, AEx.exit 0, W0c_sBuild_sLa t C q (vI (Prod.snd (a4_c_sBuild_s t C q))) (Ob.arr true 5 (List.map syntaxC
 (Prod.fst (blds (Syntax.items t) C (q - 1) [])))), [Orc.ghost (Ghost.nilbox 1 3 true 1), Orc.fin [4, 3]]), (Prod.fst (a4_c_sBuild_s t C q) = false, AEx.ret, W1c_sBuild_sLa t C q
 (vI (Prod.snd (a4_c_sBuild_s t C q))) (Ob.box [vI 0, vI 0, vS (mkS []), AC.val (Cell.lit (Value.slice none 0 0)), AC.val (Cell.lit (Value.slice none 0 0))]) (lb false), [Orc.ghost
 (Ghost.nilbox 1 3 true 1), Orc.ghost (Ghost.nilbox 1 4 true 5), Orc.fin [2, 3]])]]]] (finK Try.prog [ResultVar.cell 6 48, ResultVar.tmp 7] (Ob.box [vI (Prod.snd (Prod.snd (bld t C
 q)))] :: syntaxO (Prod.fst (bld t C q))) (AV.tup [syntaxR (Prod.fst (bld t C q)) 1, lb (Prod.fst (Prod.snd (bld t C q)))])) = (rng IntKind.i64 (q - 1) ∧ (decide (q - (1 : Int) <
 0) = true → ObsEq [Ob.box [vI (q - 1)], Ob.arr true 1 [], Ob.arr true 5 []] (a2_c_sBuild_s t C q) ∧ AV.tup [SV.agg [vI 0, vI 0, vS (ByteArray.mk #[]), AC.ref 1, AC.ref 2], lb
 false] = AV.tup (a1_c_sBuild_s t C q)) ∧ (decide (q - (1 : Int) < 0) = false → (decide (Syntax.kind t = 1) = true → P_c_sFind C t ∧ P_c_sDots t ∧ (isDots t = true → true = true ∧
 P_c_sCopyY t ∧ P_c_sDots t ∧ ObsEq [Ob.box [vI (q - 1)], Ob.arr true 1 (List.map intC (Syntax.scopes t)), Ob.arr true 5 (List.map syntaxC (Syntax.items t))] (a2_c_sBuild_s t C q)
 ∧ AV.tup [SV.agg [vI (Syntax.kind t), vI (Syntax.number t), vS (Syntax.text t), AC.ref 1, AC.ref 2], lb !isDots t] = AV.tup (a1_c_sBuild_s t C q)) ∧ (isDots t = false → (decide
 (fnd C t < 0) = true → P_c_sCopyY t ∧ P_c_sDots t ∧ ObsEq [Ob.box [vI (q - 1)], Ob.arr true 1 (List.map intC (Syntax.scopes t)), Ob.arr true 5 (List.map syntaxC (Syntax.items t))]
 (a2_c_sBuild_s t C q) ∧ AV.tup [SV.agg [vI (Syntax.kind t), vI (Syntax.number t), vS (Syntax.text t), AC.ref 1, AC.ref 2], lb !isDots t] = AV.tup (a1_c_sBuild_s t C q)) ∧ (decide
 (fnd C t < 0) = false → rng IntKind.i64 (q - 1 + 1) ∧ (0 ≤ fnd C t ∧ (List.map captureC C)[Int.toNat (fnd C t)]? = some (captureF (a3_c_sBuild_s t C))) ∧ (decide (Capture.depth
 (a3_c_sBuild_s t C) ≠ 0) = true → true = true ∧ ObsEq [Ob.box [vI (q - 1 + 1)], Ob.arr true 1 [], Ob.arr true 5 []] (a2_c_sBuild_s t C q) ∧ AV.tup [SV.agg [vI 0, vI 0, vS
 (ByteArray.mk #[]), AC.ref 1, AC.ref 2], lb false] = AV.tup (a1_c_sBuild_s t C q)) ∧ (decide (Capture.depth (a3_c_sBuild_s t C) ≠ 0) = false → (0 ≤ fnd C t ∧ (List.map captureC
 C)[Int.toNat (fnd C t)]? = some (captureF (a3_c_sBuild_s t C))) ∧ P_c_sFewY (Capture.form (a3_c_sBuild_s t C)) (q - 1 + 1) ∧ ((!decide ((↑(sizeY (Capture.form (a3_c_sBuild_s t
 C))) : Int) ≤ q - 1 + 1)) = true → ObsEq [Ob.box [vI (max (q - 1 + 1 - (↑(sizeY (Capture.form (a3_c_sBuild_s t C))) : Int)) (-1 : Int))], Ob.arr true 1 [], Ob.arr true 5 []]
 (a2_c_sBuild_s t C q) ∧ AV.tup [SV.agg [vI 0, vI 0, vS (ByteArray.mk #[]), AC.ref 1, AC.ref 2], lb false] = AV.tup (a1_c_sBuild_s t C q)) ∧ ((!decide ((↑(sizeY (Capture.form
 (a3_c_sBuild_s t C))) : Int) ≤ q - 1 + 1)) = false → (0 ≤ fnd C t ∧ (List.map captureC C)[Int.toNat (fnd C t)]? = some (captureF (a3_c_sBuild_s t C))) ∧ P_c_sCopyY (Capture.form
 (a3_c_sBuild_s t C)) ∧ ObsEq [Ob.box [vI (max (q - 1 + 1 - (↑(sizeY (Capture.form (a3_c_sBuild_s t C))) : Int)) (-1 : Int))], Ob.arr true 1 (List.map intC (Syntax.scopes
 (Capture.form (a3_c_sBuild_s t C)))), Ob.arr true 5 (List.map syntaxC (Syntax.items (Capture.form (a3_c_sBuild_s t C))))] (a2_c_sBuild_s t C q) ∧ AV.tup [SV.agg [vI (Syntax.kind
 (Capture.form (a3_c_sBuild_s t C))), vI (Syntax.number (Capture.form (a3_c_sBuild_s t C))), vS (Syntax.text (Capture.form (a3_c_sBuild_s t C))), AC.ref 1, AC.ref 2], lb true] =
 AV.tup (a1_c_sBuild_s t C q)))))) ∧ (decide (Syntax.kind t = 1) = false → Tc_sBuild_sLa t C q (li 0) (vI (q - 1)) (Ob.arr true 5 []) = Lc_sBuild_sLa t C q (0, q - 1, []) ∧
 Ic_sBuild_sLa t C q (List.length (Syntax.items t) - 0) (Lc_sBuild_sLa t C q (0, q - 1, [])) ∧ LoopSem Try.prog (loopAt Try.f48 0) (Ic_sBuild_sLa t C q) (Yc_sBuild_sLa t C q) ∧
 (Prod.fst (a4_c_sBuild_s t C q) = true → ObsEq [Ob.box [vI (Prod.snd (a4_c_sBuild_s t C q))], Ob.arr true 1 [], Ob.arr true 5 (List.map syntaxC (Prod.fst (blds (Syntax.items t) C
 (q - 1) [])))] (a2_c_sBuild_s t C q) ∧ AV.tup [SV.agg [vI (Syntax.kind t), vI (Syntax.number t), vS (Syntax.text t), AC.ref 1, AC.ref 2], lb true] = AV.tup (a1_c_sBuild_s t C q))
 ∧ (Prod.fst (a4_c_sBuild_s t C q) = false → ObsEq [Ob.box [vI (Prod.snd (a4_c_sBuild_s t C q))], Ob.arr true 1 [], Ob.arr true 5 []] (a2_c_sBuild_s t C q) ∧ AV.tup [SV.agg [vI 0,
 vI 0, vS (mkS []), AC.ref 1, AC.ref 2], lb false] = AV.tup (a1_c_sBuild_s t C q)) ∧ True))) := by kernel_rfl
theorem c_sBuild_s (t : Syntax) (C : List Capture) (q : Int) (h : 0 ≤ q ∧ q ≤ 2000 ∧ wY t ≤ 1048576 ∧ C.length ≤ 1048576) (hC : ∀ z ∈ C, wP z ≤ 1048576) (ih : ∀ z ∈ t.items, ∀ (C :
 List Capture) (q : Int) (h : 0 ≤ q ∧ q ≤ 2000 ∧ wY z ≤ 1048576 ∧ C.length ≤ 1048576) (hC : ∀ z ∈ C, wP z ≤ 1048576), P_c_sBuild z C q)  : P_c_sBuild t C q := by
  refine CallOK.ofRun wide (run_c_sBuild_s t C q) Try.call48 Try.func48 rfl rfl rfl ?_
  try delta a1_c_sBuild_s a2_c_sBuild_s a3_c_sBuild_s a4_c_sBuild_s
  have g2 := fnd_lt C t
  have g3 := @capOf_w C hC t
  have g4 := wY_eq t
  with_reducible repeat' (first | apply And.intro | exact flatI | exact flatS | exact rowLens | exact ih | (intro; skip) | apply obsN | apply obsC | apply obA | apply obM | apply obB | apply svA | apply tupA | apply lcA | apply lcS | apply svC | apply liC | apply lbC | apply lsC | apply vIc | apply vBc | apply vSc | apply vLc | apply mapC | apply Hc_sBuild_sLa | apply Ec_sBuild_sLa | apply Sc_sBuild_sLa | apply Hc_sBuild_sLb | apply Ec_sBuild_sLb | apply Sc_sBuild_sLb | apply EW0c_sBuild_sLb | apply EW0c_sBuild_sLa | apply EW1c_sBuild_sLa | apply c_sFind | apply c_sDots | apply c_sCopyY | apply c_sFewY | apply c_sCountC | apply c_sStep)
  all_goals (try simp only [std] at *)
  all_goals (try (first | with_reducible apply c_sFind | with_reducible apply c_sDots | with_reducible apply c_sCopyY | with_reducible apply c_sFewY | with_reducible apply c_sCountC | with_reducible apply c_sStep | with_reducible apply ih | (simp only [← List.map_append]; first | with_reducible apply c_sFind | with_reducible apply c_sDots | with_reducible apply c_sCopyY | with_reducible apply c_sFewY | with_reducible apply c_sCountC | with_reducible apply c_sStep | with_reducible apply ih)))
  all_goals (try (first | with_reducible rfl | omega | assumption | (refine (decide_eq_true ?_).symm; assumption) | (refine (decide_eq_false ?_).symm; assumption) | (refine rowGet ?_; (first | omega | (simp only [std]; omega) | grind)) | (refine getC ?_ rfl; (first | omega | (simp only [std]; omega) | grind)) | (show (_ : St) = _; rfl)))
  all_goals (try simp only [Bool.not_eq_true', Bool.not_eq_false', decide_eq_false_iff_not, decide_eq_true_eq, Decidable.not_not] at *)
  all_goals (try first | exact hC _ (by assumption) | exact capOf_w hC (by omega) | (rw [bld_b1 (by omega)]) | (rw [bld_b2 (by omega) (by assumption) (by first | exact Or.inl (by assumption) | exact Or.inr (by omega))]) | (rw [bld_b3 (by omega) (by assumption) (by assumption) (by omega) (by assumption)]) | (rw [bld_b4 (by omega) (by assumption) (by assumption) (by omega) (by assumption) (by omega)]) | (rw [bld_b5 (by omega) (by assumption) (by assumption) (by omega) (by assumption) (by omega)]) | (rw [bld_b6 (by omega) (by assumption) (by assumption)]) | (rw [bld_b7 (by omega) (by assumption) (by assumption)]))
  all_goals (try first | rfl | (dsimp only; omega) | (simp only [List.length_nil]; omega))
theorem c_sBuild (t : Syntax) : ∀ (C : List Capture) (q : Int) (h : 0 ≤ q ∧ q ≤ 2000 ∧ wY t ≤ 1048576 ∧ C.length ≤ 1048576) (hC : ∀ z ∈ C, wP z ≤ 1048576), P_c_sBuild t C q := Syntax.ind (P := fun t => ∀ (C : List Capture) (q : Int) (h : 0 ≤ q ∧ q ≤ 2000 ∧ wY t ≤ 1048576 ∧ C.length ≤ 1048576) (hC : ∀ z ∈ C, wP z ≤ 1048576), P_c_sBuild t C q) (fun t ih C q h hC => c_sBuild_s t C q h hC ih) t
abbrev P_c_iBuild (t : Syntax) (C : List Capture) (q : Int) : Prop := CallOK Try.prog 54 [.box [vI q]] [.one (.ptr 0 0), syntaxA t, ll (C.map captureC)] (.box [vI (bli t C q).2.2] :: syntaxO (bli t C q).1) (.tup [syntaxR (bli t C q).1 1, lb (bli t C q).2.1])
def Tc_iBuild_sLd (t : Syntax) (C : List Capture) (q : Int) (k : Nat × Int × List Syntax) (k1 : Nat) (x0 : SV) (x1 : Ob) : St := St.mk (regsOf 206 [(0, AV.sv (SV.one (AC.ptr 0
 0))), (2, AV.sv (ll (List.map captureC C))), (4, AV.sv (SV.one (AC.ptr 1 0))), (6, AV.sv (SV.one (AC.ptr 2 0))), (10, AV.sv (SV.one (AC.ptr 3 0))), (11, AV.sv (li ((↑(Prod.fst k)
 : Int) + 1))), (12, AV.sv (SV.one (AC.ptr 4 0))), (15, AV.sv (SV.one (AC.ref 5))), (16, AV.sv (li (↑(List.length (List.map captureC (Capture.each (List.getD C (Int.toNat
 (List.getD (rpi C (List.getD (Syntax.items t) (Prod.fst k) default) []) 0 0)) default)))) : Int))), (19, AV.sv (li (↑k1 : Int))), (20, AV.sv (SV.one (AC.ref 6))), (171, AV.sv
 (SV.one (AC.ref 5))), (172, AV.sv (li (↑(List.length (List.map intC (rpi C (List.getD (Syntax.items t) (Prod.fst k) default) []))) : Int))), (173, AV.sv x0)]) [Ob.box [vI
 (Prod.snd (Prod.snd (iI C (List.getD (Syntax.items t) (Prod.fst k) default) k1 (Prod.fst (Prod.snd k)) (Prod.snd (Prod.snd k)))))], Ob.box (vals (syntaxF t)), Ob.box [vI 0, vI 0,
 vS (ByteArray.mk #[]), AC.val (Cell.lit (Value.slice none 0 0)), AC.val (Cell.lit (Value.slice none 0 0))], Ob.box [vI (Syntax.kind t), vI (Syntax.number t), vS (Syntax.text t),
 AC.ref 7, AC.ref 8], Ob.box (vals (syntaxF (List.getD (Syntax.items t) (Prod.fst k) default))), Ob.arr true 1 (List.map intC (rpi C (List.getD (Syntax.items t) (Prod.fst k)
 default) [])), x1, Ob.arr true 1 (List.map intC (Syntax.scopes t)), Ob.arr true 5 (List.map syntaxC (Prod.fst (iI C (List.getD (Syntax.items t) (Prod.fst k) default) k1 (Prod.fst
 (Prod.snd k)) (Prod.snd (Prod.snd k)))))] 1 
def Lc_iBuild_sLd (t : Syntax) (C : List Capture) (q : Int) (k : Nat × Int × List Syntax) (k1 : Nat) (k2 : Nat) : St := Tc_iBuild_sLd t C q k k1 (li (↑k2 : Int)) (Ob.arr false 12
 (List.map captureC (stqT C k1 (List.take k2 (rpX C (List.getD (Syntax.items t) (Prod.fst k) default)))))) 
def Ic_iBuild_sLd (t : Syntax) (C : List Capture) (q : Int) (k : Nat × Int × List Syntax) (k1 : Nat) : Nat → St → Prop := Head (Lc_iBuild_sLd t C q k k1) (fun k2 => k2 ≤
 List.length (rpX C (List.getD (Syntax.items t) (Prod.fst k) default)) ∧ List.length (rpX C (List.getD (Syntax.items t) (Prod.fst k) default)) ≤ 1048577 ∧ k1 < rqN C (List.getD
 (Syntax.items t) (Prod.fst k) default) ∧ rqB C (List.getD (Syntax.items t) (Prod.fst k) default) = true) fun k2 => List.length (rpX C (List.getD (Syntax.items t) (Prod.fst k)
 default)) - k2 
def W0c_iBuild_sLd (t : Syntax) (C : List Capture) (q : Int) (k : Nat × Int × List Syntax) (k1 : Nat) (x0 : Ob) : St := St.mk (regsOf 206 [(0, AV.sv (SV.one (AC.ptr 0 0))), (2,
 AV.sv (ll (List.map captureC C))), (4, AV.sv (SV.one (AC.ptr 1 0))), (6, AV.sv (SV.one (AC.ptr 2 0))), (10, AV.sv (SV.one (AC.ptr 3 0))), (11, AV.sv (li ((↑(Prod.fst k) : Int) +
 1))), (12, AV.sv (SV.one (AC.ptr 4 0))), (15, AV.sv (SV.one (AC.ref 5))), (16, AV.sv (li (↑(List.length (List.map captureC (Capture.each (List.getD C (Int.toNat (List.getD (rpi C
 (List.getD (Syntax.items t) (Prod.fst k) default) []) 0 0)) default)))) : Int))), (19, AV.sv (li (↑k1 : Int))), (20, AV.sv (SV.one (AC.ref 6)))]) [Ob.box [vI (Prod.snd (Prod.snd
 (iI C (List.getD (Syntax.items t) (Prod.fst k) default) k1 (Prod.fst (Prod.snd k)) (Prod.snd (Prod.snd k)))))], Ob.box (vals (syntaxF t)), Ob.box [vI 0, vI 0, vS (ByteArray.mk
 #[]), AC.val (Cell.lit (Value.slice none 0 0)), AC.val (Cell.lit (Value.slice none 0 0))], Ob.box [vI (Syntax.kind t), vI (Syntax.number t), vS (Syntax.text t), AC.ref 7, AC.ref
 8], Ob.box (vals (syntaxF (List.getD (Syntax.items t) (Prod.fst k) default))), Ob.arr true 1 (List.map intC (rpi C (List.getD (Syntax.items t) (Prod.fst k) default) [])), x0,
 Ob.arr true 1 (List.map intC (Syntax.scopes t)), Ob.arr true 5 (List.map syntaxC (Prod.fst (iI C (List.getD (Syntax.items t) (Prod.fst k) default) k1 (Prod.fst (Prod.snd k))
 (Prod.snd (Prod.snd k)))))] 1 
def Yc_iBuild_sLd (t : Syntax) (C : List Capture) (q : Int) (k : Nat × Int × List Syntax) (k1 : Nat) : List (Prop × AEx × St) := [(True, AEx.exit 6, W0c_iBuild_sLd t C q k k1
 (Ob.arr false 12 (List.map captureC (stq C (List.getD (Syntax.items t) (Prod.fst k) default) k1))))]
def Tc_iBuild_sLc (t : Syntax) (C : List Capture) (q : Int) (k : Nat × Int × List Syntax) (x0 : SV) (x1 : AC) (x2 : Ob) : St := St.mk (regsOf 206 [(0, AV.sv (SV.one (AC.ptr 0 0))),
 (2, AV.sv (ll (List.map captureC C))), (4, AV.sv (SV.one (AC.ptr 1 0))), (6, AV.sv (SV.one (AC.ptr 2 0))), (10, AV.sv (SV.one (AC.ptr 3 0))), (11, AV.sv (li ((↑(Prod.fst k) : Int)
 + 1))), (12, AV.sv (SV.one (AC.ptr 4 0))), (15, AV.sv (SV.one (AC.ref 5))), (16, AV.sv (li (↑(List.length (List.map captureC (Capture.each (List.getD C (Int.toNat (List.getD (rpi
 C (List.getD (Syntax.items t) (Prod.fst k) default) []) 0 0)) default)))) : Int))), (19, AV.sv x0)]) [Ob.box [x1], Ob.box (vals (syntaxF t)), Ob.box [vI 0, vI 0, vS (ByteArray.mk
 #[]), AC.val (Cell.lit (Value.slice none 0 0)), AC.val (Cell.lit (Value.slice none 0 0))], Ob.box [vI (Syntax.kind t), vI (Syntax.number t), vS (Syntax.text t), AC.ref 6, AC.ref
 7], Ob.box (vals (syntaxF (List.getD (Syntax.items t) (Prod.fst k) default))), Ob.arr true 1 (List.map intC (rpi C (List.getD (Syntax.items t) (Prod.fst k) default) [])), Ob.arr
 true 1 (List.map intC (Syntax.scopes t)), x2] 1 
def Lc_iBuild_sLc (t : Syntax) (C : List Capture) (q : Int) (k : Nat × Int × List Syntax) (k1 : Nat) : St := Tc_iBuild_sLc t C q k (li (↑k1 : Int)) (vI (Prod.snd (Prod.snd (iI C
 (List.getD (Syntax.items t) (Prod.fst k) default) k1 (Prod.fst (Prod.snd k)) (Prod.snd (Prod.snd k)))))) (Ob.arr true 5 (List.map syntaxC (Prod.fst (iI C (List.getD (Syntax.items
 t) (Prod.fst k) default) k1 (Prod.fst (Prod.snd k)) (Prod.snd (Prod.snd k)))))) 
def Ic_iBuild_sLc (t : Syntax) (C : List Capture) (q : Int) (k : Nat × Int × List Syntax) : Nat → St → Prop := Head (Lc_iBuild_sLc t C q k) (fun k1 => k1 ≤ rqN C (List.getD
 (Syntax.items t) (Prod.fst k) default) ∧ rqB C (List.getD (Syntax.items t) (Prod.fst k) default) = true ∧ Prod.fst (Prod.snd (iI C (List.getD (Syntax.items t) (Prod.fst k)
 default) k1 (Prod.fst (Prod.snd k)) (Prod.snd (Prod.snd k)))) = true ∧ List.length (rpX C (List.getD (Syntax.items t) (Prod.fst k) default)) ≤ 1048577 ∧ Prod.fst k + 1 <
 List.length (Syntax.items t) ∧ List.length (Syntax.items t) ≤ 1048576 ∧ isDots (List.getD (Syntax.items t) (Prod.fst k + 1) default) = true ∧ 0 ≤ Prod.fst (Prod.snd k) ∧
 (↑(List.length (Prod.snd (Prod.snd k))) : Int) + Prod.fst (Prod.snd k) ≤ 2000 ∧ blis (Syntax.items t) C (q - 1) [] = blis (List.drop (Prod.fst k) (Syntax.items t)) C (Prod.fst
 (Prod.snd k)) (Prod.snd (Prod.snd k))) fun k1 => rqN C (List.getD (Syntax.items t) (Prod.fst k) default) - k1 
def W0c_iBuild_sLc (t : Syntax) (C : List Capture) (q : Int) (k : Nat × Int × List Syntax) (x0 : AC) (x1 : Ob) : St := St.mk (regsOf 206 [(0, AV.sv (SV.one (AC.ptr 0 0))), (2,
 AV.sv (ll (List.map captureC C))), (4, AV.sv (SV.one (AC.ptr 1 0))), (6, AV.sv (SV.one (AC.ptr 2 0))), (10, AV.sv (SV.one (AC.ptr 3 0))), (11, AV.sv (li ((↑(Prod.fst k) : Int) +
 1)))]) [Ob.box [x0], Ob.box (vals (syntaxF t)), Ob.box [vI 0, vI 0, vS (ByteArray.mk #[]), AC.val (Cell.lit (Value.slice none 0 0)), AC.val (Cell.lit (Value.slice none 0 0))],
 Ob.box [vI (Syntax.kind t), vI (Syntax.number t), vS (Syntax.text t), AC.ref 4, AC.ref 5], Ob.arr true 1 (List.map intC (Syntax.scopes t)), x1] 1 
def W1c_iBuild_sLc (t : Syntax) (C : List Capture) (q : Int) (k : Nat × Int × List Syntax) (x0 : AC) (x1 : Ob) (x2 : SV) : St := St.mk (regsOf 206 [(6, AV.sv (SV.one (AC.ptr 1
 0))), (7, AV.sv x2)]) [Ob.box [x0], x1] 1 
def Yc_iBuild_sLc (t : Syntax) (C : List Capture) (q : Int) (k : Nat × Int × List Syntax) : List (Prop × AEx × St) := [(Prod.fst (Prod.snd (iR C (List.getD (Syntax.items t)
 (Prod.fst k) default) (Prod.fst (Prod.snd k)) (Prod.snd (Prod.snd k)))) = true, AEx.exit 4, W0c_iBuild_sLc t C q k (vI (Prod.snd (Prod.snd (iR C (List.getD (Syntax.items t)
 (Prod.fst k) default) (Prod.fst (Prod.snd k)) (Prod.snd (Prod.snd k)))))) (Ob.arr true 5 (List.map syntaxC (Prod.fst (iR C (List.getD (Syntax.items t) (Prod.fst k) default)
 (Prod.fst (Prod.snd k)) (Prod.snd (Prod.snd k))))))), (Prod.fst (Prod.snd (blis (Syntax.items t) C (q - 1) [])) = false, AEx.ret, W1c_iBuild_sLc t C q k (vI (Prod.snd (Prod.snd
 (blis (Syntax.items t) C (q - 1) [])))) (Ob.box [vI 0, vI 0, vS (mkS []), AC.val (Cell.lit (Value.slice none 0 0)), AC.val (Cell.lit (Value.slice none 0 0))]) (lb false))]
def Tc_iBuild_sLb (t : Syntax) (C : List Capture) (q : Int) (k : Nat × Int × List Syntax) (x0 : SV) : St := St.mk (regsOf 206 [(0, AV.sv (SV.one (AC.ptr 0 0))), (2, AV.sv (ll
 (List.map captureC C))), (4, AV.sv (SV.one (AC.ptr 1 0))), (6, AV.sv (SV.one (AC.ptr 2 0))), (10, AV.sv (SV.one (AC.ptr 3 0))), (11, AV.sv (li ((↑(Prod.fst k) : Int) + 1))), (12,
 AV.sv (SV.one (AC.ptr 4 0))), (15, AV.sv (SV.one (AC.ref 5))), (16, AV.sv (li (↑(List.length (List.map captureC (Capture.each (List.getD C (Int.toNat (List.getD (rpi C (List.getD
 (Syntax.items t) (Prod.fst k) default) []) 0 0)) default)))) : Int))), (148, AV.sv (SV.one (AC.ref 5))), (149, AV.sv (li (↑(List.length (List.map intC (rpi C (List.getD
 (Syntax.items t) (Prod.fst k) default) []))) : Int))), (150, AV.sv x0)]) [Ob.box [vI (Prod.fst (Prod.snd k))], Ob.box (vals (syntaxF t)), Ob.box [vI 0, vI 0, vS (ByteArray.mk
 #[]), AC.val (Cell.lit (Value.slice none 0 0)), AC.val (Cell.lit (Value.slice none 0 0))], Ob.box [vI (Syntax.kind t), vI (Syntax.number t), vS (Syntax.text t), AC.ref 6, AC.ref
 7], Ob.box (vals (syntaxF (List.getD (Syntax.items t) (Prod.fst k) default))), Ob.arr true 1 (List.map intC (rpi C (List.getD (Syntax.items t) (Prod.fst k) default) [])), Ob.arr
 true 1 (List.map intC (Syntax.scopes t)), Ob.arr true 5 (List.map syntaxC (Prod.snd (Prod.snd k)))] 1 
def Lc_iBuild_sLb (t : Syntax) (C : List Capture) (q : Int) (k : Nat × Int × List Syntax) (k1 : Nat) : St := Tc_iBuild_sLb t C q k (li (↑k1 : Int)) 
def Ic_iBuild_sLb (t : Syntax) (C : List Capture) (q : Int) (k : Nat × Int × List Syntax) : Nat → St → Prop := Head (Lc_iBuild_sLb t C q k) (fun k1 => k1 ≤ List.length (rpX C
 (List.getD (Syntax.items t) (Prod.fst k) default)) ∧ List.length (rpX C (List.getD (Syntax.items t) (Prod.fst k) default)) ≤ 1048577 ∧ rqA C (List.take k1 (rpX C (List.getD
 (Syntax.items t) (Prod.fst k) default))) (lnI C (List.getD (rpX C (List.getD (Syntax.items t) (Prod.fst k) default)) 0 default)) = true ∧ 0 < List.length (rpX C (List.getD
 (Syntax.items t) (Prod.fst k) default)) ∧ Prod.fst k + 1 < List.length (Syntax.items t) ∧ List.length (Syntax.items t) ≤ 1048576 ∧ isDots (List.getD (Syntax.items t) (Prod.fst k +
 1) default) = true ∧ 0 ≤ Prod.fst (Prod.snd k) ∧ (↑(List.length (Prod.snd (Prod.snd k))) : Int) + Prod.fst (Prod.snd k) ≤ 2000 ∧ blis (Syntax.items t) C (q - 1) [] = blis
 (List.drop (Prod.fst k) (Syntax.items t)) C (Prod.fst (Prod.snd k)) (Prod.snd (Prod.snd k))) fun k1 => List.length (rpX C (List.getD (Syntax.items t) (Prod.fst k) default)) - k1 
def W0c_iBuild_sLb (t : Syntax) (C : List Capture) (q : Int) (k : Nat × Int × List Syntax) : St := St.mk (regsOf 206 [(0, AV.sv (SV.one (AC.ptr 0 0))), (2, AV.sv (ll (List.map
 captureC C))), (4, AV.sv (SV.one (AC.ptr 1 0))), (6, AV.sv (SV.one (AC.ptr 2 0))), (10, AV.sv (SV.one (AC.ptr 3 0))), (11, AV.sv (li ((↑(Prod.fst k) : Int) + 1))), (12, AV.sv
 (SV.one (AC.ptr 4 0))), (15, AV.sv (SV.one (AC.ref 5))), (16, AV.sv (li (↑(List.length (List.map captureC (Capture.each (List.getD C (Int.toNat (List.getD (rpi C (List.getD
 (Syntax.items t) (Prod.fst k) default) []) 0 0)) default)))) : Int)))]) [Ob.box [vI (Prod.fst (Prod.snd k))], Ob.box (vals (syntaxF t)), Ob.box [vI 0, vI 0, vS (ByteArray.mk #[]),
 AC.val (Cell.lit (Value.slice none 0 0)), AC.val (Cell.lit (Value.slice none 0 0))], Ob.box [vI (Syntax.kind t), vI (Syntax.number t), vS (Syntax.text t), AC.ref 6, AC.ref 7],
 Ob.box (vals (syntaxF (List.getD (Syntax.items t) (Prod.fst k) default))), Ob.arr true 1 (List.map intC (rpi C (List.getD (Syntax.items t) (Prod.fst k) default) [])), Ob.arr true
 1 (List.map intC (Syntax.scopes t)), Ob.arr true 5 (List.map syntaxC (Prod.snd (Prod.snd k)))] 1 
def W1c_iBuild_sLb (t : Syntax) (C : List Capture) (q : Int) (k : Nat × Int × List Syntax) (x0 : AC) (x1 : Ob) (x2 : SV) : St := St.mk (regsOf 206 [(6, AV.sv (SV.one (AC.ptr 1
 0))), (7, AV.sv x2)]) [Ob.box [x0], x1] 1 
def Yc_iBuild_sLb (t : Syntax) (C : List Capture) (q : Int) (k : Nat × Int × List Syntax) : List (Prop × AEx × St) := [(rqB C (List.getD (Syntax.items t) (Prod.fst k) default) =
 true, AEx.exit 2, W0c_iBuild_sLb t C q k), (Prod.fst (Prod.snd (blis (Syntax.items t) C (q - 1) [])) = false, AEx.ret, W1c_iBuild_sLb t C q k (vI (Prod.snd (Prod.snd (blis
 (Syntax.items t) C (q - 1) [])))) (Ob.box [vI 0, vI 0, vS (mkS []), AC.val (Cell.lit (Value.slice none 0 0)), AC.val (Cell.lit (Value.slice none 0 0))]) (lb false))]
def Tc_iBuild_sLa (t : Syntax) (C : List Capture) (q : Int) (x0 : SV) (x1 : AC) (x2 : Ob) : St := St.mk (regsOf 206 [(0, AV.sv (SV.one (AC.ptr 0 0))), (2, AV.sv (ll (List.map
 captureC C))), (4, AV.sv (SV.one (AC.ptr 1 0))), (6, AV.sv (SV.one (AC.ptr 2 0))), (10, AV.sv (SV.one (AC.ptr 3 0))), (11, AV.sv x0)]) [Ob.box [x1], Ob.box (vals (syntaxF t)),
 Ob.box [vI 0, vI 0, vS (ByteArray.mk #[]), AC.val (Cell.lit (Value.slice none 0 0)), AC.val (Cell.lit (Value.slice none 0 0))], Ob.box [vI (Syntax.kind t), vI (Syntax.number t),
 vS (Syntax.text t), AC.ref 4, AC.ref 5], Ob.arr true 1 (List.map intC (Syntax.scopes t)), x2] 1 
def Lc_iBuild_sLa (t : Syntax) (C : List Capture) (q : Int) (k : Nat × Int × List Syntax) : St := Tc_iBuild_sLa t C q (li (↑(Prod.fst k) : Int)) (vI (Prod.fst (Prod.snd k)))
 (Ob.arr true 5 (List.map syntaxC (Prod.snd (Prod.snd k)))) 
def Ic_iBuild_sLa (t : Syntax) (C : List Capture) (q : Int) : Nat → St → Prop := Head (Lc_iBuild_sLa t C q) (fun k => List.length (Syntax.items t) ≥ Prod.fst k ∧ List.length
 (Syntax.items t) ≤ 1048576 ∧ blis (Syntax.items t) C (q - 1) [] = blis (List.drop (Prod.fst k) (Syntax.items t)) C (Prod.fst (Prod.snd k)) (Prod.snd (Prod.snd k)) ∧ 0 ≤ Prod.fst
 (Prod.snd k) ∧ (↑(List.length (Prod.snd (Prod.snd k))) : Int) + Prod.fst (Prod.snd k) ≤ 2000) fun k => List.length (Syntax.items t) - Prod.fst k 
def W0c_iBuild_sLa (t : Syntax) (C : List Capture) (q : Int) (x0 : AC) (x1 : Ob) : St := St.mk (regsOf 206 [(6, AV.sv (SV.one (AC.ptr 1 0))), (10, AV.sv (SV.one (AC.ptr 2 0)))])
 [Ob.box [x0], Ob.box [vI 0, vI 0, vS (ByteArray.mk #[]), AC.val (Cell.lit (Value.slice none 0 0)), AC.val (Cell.lit (Value.slice none 0 0))], Ob.box [vI (Syntax.kind t), vI
 (Syntax.number t), vS (Syntax.text t), AC.ref 3, AC.ref 4], Ob.arr true 1 (List.map intC (Syntax.scopes t)), x1] 1 
def W1c_iBuild_sLa (t : Syntax) (C : List Capture) (q : Int) (x0 : AC) (x1 : Ob) (x2 : SV) : St := St.mk (regsOf 206 [(6, AV.sv (SV.one (AC.ptr 1 0))), (7, AV.sv x2)]) [Ob.box
 [x0], x1] 1 
def Yc_iBuild_sLa (t : Syntax) (C : List Capture) (q : Int) : List (Prop × AEx × St) := [(Prod.fst (Prod.snd (blis (Syntax.items t) C (q - 1) [])) = true, AEx.exit 0,
 W0c_iBuild_sLa t C q (vI (Prod.snd (Prod.snd (blis (Syntax.items t) C (q - 1) [])))) (Ob.arr true 5 (List.map syntaxC (Prod.fst (blis (Syntax.items t) C (q - 1) []))))), (Prod.fst
 (Prod.snd (blis (Syntax.items t) C (q - 1) [])) = false, AEx.ret, W1c_iBuild_sLa t C q (vI (Prod.snd (Prod.snd (blis (Syntax.items t) C (q - 1) [])))) (Ob.box [vI 0, vI 0, vS (mkS
 []), AC.val (Cell.lit (Value.slice none 0 0)), AC.val (Cell.lit (Value.slice none 0 0))]) (lb false))]
theorem Hc_iBuild_sLd {t : Syntax} {C : List Capture} {q : Int} {k : Nat × Int × List Syntax} {k1 : Nat} {k2 : Nat} {m : Nat} (h : (fun k2 => k2 ≤ List.length (rpX C (List.getD
 (Syntax.items t) (Prod.fst k) default)) ∧ List.length (rpX C (List.getD (Syntax.items t) (Prod.fst k) default)) ≤ 1048577 ∧ k1 < rqN C (List.getD (Syntax.items t) (Prod.fst k)
 default) ∧ rqB C (List.getD (Syntax.items t) (Prod.fst k) default) = true) k2) (hm : (fun k2 => List.length (rpX C (List.getD (Syntax.items t) (Prod.fst k) default)) - k2) k2 = m)
 : Ic_iBuild_sLd t C q k k1 m (Lc_iBuild_sLd t C q k k1 k2) := hm ▸ Head.mk h
theorem Ec_iBuild_sLd {t : Syntax} {C : List Capture} {q : Int} {k : Nat × Int × List Syntax} {k1 : Nat} {k2 : Nat} {x0 : SV} {x1 : Ob} (h0 : x0 = (li (↑k2 : Int))) (h1 : x1 =
 (Ob.arr false 12 (List.map captureC (stqT C k1 (List.take k2 (rpX C (List.getD (Syntax.items t) (Prod.fst k) default))))))) : Tc_iBuild_sLd t C q k k1 x0 x1 = Lc_iBuild_sLd t C q
 k k1 k2 := by
  rw [h0, h1]
  rfl
theorem EW0c_iBuild_sLd {t : Syntax} {C : List Capture} {q : Int} {k : Nat × Int × List Syntax} {k1 : Nat} {x0 y0 : Ob} (h0 : x0 = y0) : W0c_iBuild_sLd t C q k k1 x0 =
 W0c_iBuild_sLd t C q k k1 y0 := by rw [h0]
abbrev a2__iBuild_sLd (t : Syntax) (k : Nat × Int × List Syntax) := (List.getD (Syntax.items t) (Prod.fst k) default)
abbrev a1__iBuild_sLd (t : Syntax) (C : List Capture) (k : Nat × Int × List Syntax) (k2 : Nat) := (List.getD (rpi C (a2__iBuild_sLd t k) []) (Int.toNat (↑k2 : Int)) 0)
abbrev a3__iBuild_sLd (t : Syntax) (C : List Capture) (k : Nat × Int × List Syntax) (k2 : Nat) := (List.getD C (Int.toNat (a1__iBuild_sLd t C k k2)) default)
theorem run_c_iBuild_sLd (t : Syntax) (C : List Capture) (q : Int) (k : Nat × Int × List Syntax) (k1 : Nat) (k2 : Nat) : aexec Try.prog (loopAt Try.f54 3) (Lc_iBuild_sLd t C q k k1
 k2) [Orc.br [Orc.cells (intC (List.getD (rpi C (a2__iBuild_sLd t k) []) (Int.toNat (↑k2 : Int)) default)), Orc.cells (captureF (a3__iBuild_sLd t C k k2)), Orc.cells (captureF
 (List.getD (Capture.each (a3__iBuild_sLd t C k k2)) k1 default)), Orc.cells (captureF (List.getD (stqT C k1 (List.take k2 (rpX C (a2__iBuild_sLd t k)))) (Int.toNat (a1__iBuild_sLd
 t C k k2)) default)), Orc.ghost (Ghost.sel [0, 1, 2, 3, 4, 5, 6, 7, 8] [0, 2, 4, 6, 10, 11, 12, 15, 16, 19, 20, 171, 172, 173]), Orc.goto (List.length (rpX C (a2__iBuild_sLd t k))
 - (k2 + 1)) (Lc_iBuild_sLd t C q k k1 (k2 + 1))] [Orc.ghost (Ghost.sel [0, 1, 2, 3, 4, 5, 6, 7, 8] [0, 2, 4, 6, 10, 11, 12, 15, 16, 19, 20]), Orc.out 0]] (loopK (Ic_iBuild_sLd t C
 q k k1) (Yc_iBuild_sLd t C q k k1) (List.length (rpX C (a2__iBuild_sLd t k)) - k2)) = ((decide ((↑k2 : Int) < (↑(List.length (List.map intC (rpi C (a2__iBuild_sLd t k) []))) :
 Int)) = true → (0 ≤ (↑k2 : Int) ∧ Int.toNat (↑k2 : Int) < List.length (List.map intC (rpi C (a2__iBuild_sLd t k) []))) ∧ (List.map intC (rpi C (a2__iBuild_sLd t k) []))[Int.toNat
 (↑k2 : Int)]? = some [cI (a1__iBuild_sLd t C k k2)] ∧ (0 ≤ List.getD (rpi C (a2__iBuild_sLd t k) []) (Int.toNat (↑k2 : Int)) 0 ∧ (List.map captureC C)[Int.toNat (a1__iBuild_sLd t
 C k k2)]? = some (captureF (a3__iBuild_sLd t C k k2))) ∧ (0 ≤ (↑k1 : Int) ∧ (List.map captureC (Capture.each (a3__iBuild_sLd t C k k2)))[Int.toNat (↑k1 : Int)]? = some (captureF
 (List.getD (Capture.each (a3__iBuild_sLd t C k k2)) k1 default))) ∧ (0 ≤ List.getD (rpi C (a2__iBuild_sLd t k) []) (Int.toNat (↑k2 : Int)) 0 ∧ Int.toNat (a1__iBuild_sLd t C k k2)
 < List.length (List.map captureC (stqT C k1 (List.take k2 (rpX C (a2__iBuild_sLd t k)))))) ∧ (List.map captureC (stqT C k1 (List.take k2 (rpX C (a2__iBuild_sLd t k)))))[Int.toNat
 (a1__iBuild_sLd t C k k2)]? = some (captureF (List.getD (stqT C k1 (List.take k2 (rpX C (a2__iBuild_sLd t k)))) (Int.toNat (a1__iBuild_sLd t C k k2)) default)) ∧ rng IntKind.i64
 ((↑k2 : Int) + 1) ∧ List.length (rpX C (a2__iBuild_sLd t k)) - (k2 + 1) < List.length (rpX C (a2__iBuild_sLd t k)) - k2 ∧ Tc_iBuild_sLd t C q k k1 (li ((↑k2 : Int) + 1)) (Ob.arr
 false 12 (List.set (List.map captureC (stqT C k1 (List.take k2 (rpX C (a2__iBuild_sLd t k))))) (Int.toNat (a1__iBuild_sLd t C k k2)) (captureF (List.getD (Capture.each
 (a3__iBuild_sLd t C k k2)) k1 default)))) = Lc_iBuild_sLd t C q k k1 (k2 + 1) ∧ Ic_iBuild_sLd t C q k k1 (List.length (rpX C (a2__iBuild_sLd t k)) - (k2 + 1)) (Lc_iBuild_sLd t C q
 k k1 (k2 + 1))) ∧ (decide ((↑k2 : Int) < (↑(List.length (List.map intC (rpi C (a2__iBuild_sLd t k) []))) : Int)) = false → True ∧ W0c_iBuild_sLd t C q k k1 (Ob.arr false 12
 (List.map captureC (stqT C k1 (List.take k2 (rpX C (a2__iBuild_sLd t k)))))) = W0c_iBuild_sLd t C q k k1 (Ob.arr false 12 (List.map captureC (stq C (a2__iBuild_sLd t k) k1))))) :=
 by kernel_rfl
theorem Hc_iBuild_sLc {t : Syntax} {C : List Capture} {q : Int} {k : Nat × Int × List Syntax} {k1 : Nat} {m : Nat} (h : (fun k1 => k1 ≤ rqN C (List.getD (Syntax.items t) (Prod.fst
 k) default) ∧ rqB C (List.getD (Syntax.items t) (Prod.fst k) default) = true ∧ Prod.fst (Prod.snd (iI C (List.getD (Syntax.items t) (Prod.fst k) default) k1 (Prod.fst (Prod.snd
 k)) (Prod.snd (Prod.snd k)))) = true ∧ List.length (rpX C (List.getD (Syntax.items t) (Prod.fst k) default)) ≤ 1048577 ∧ Prod.fst k + 1 < List.length (Syntax.items t) ∧
 List.length (Syntax.items t) ≤ 1048576 ∧ isDots (List.getD (Syntax.items t) (Prod.fst k + 1) default) = true ∧ 0 ≤ Prod.fst (Prod.snd k) ∧ (↑(List.length (Prod.snd (Prod.snd k)))
 : Int) + Prod.fst (Prod.snd k) ≤ 2000 ∧ blis (Syntax.items t) C (q - 1) [] = blis (List.drop (Prod.fst k) (Syntax.items t)) C (Prod.fst (Prod.snd k)) (Prod.snd (Prod.snd k))) k1)
 (hm : (fun k1 => rqN C (List.getD (Syntax.items t) (Prod.fst k) default) - k1) k1 = m) : Ic_iBuild_sLc t C q k m (Lc_iBuild_sLc t C q k k1) := hm ▸ Head.mk h
theorem Ec_iBuild_sLc {t : Syntax} {C : List Capture} {q : Int} {k : Nat × Int × List Syntax} {k1 : Nat} {x0 : SV} {x1 : AC} {x2 : Ob} (h0 : x0 = (li (↑k1 : Int))) (h1 : x1 = (vI
 (Prod.snd (Prod.snd (iI C (List.getD (Syntax.items t) (Prod.fst k) default) k1 (Prod.fst (Prod.snd k)) (Prod.snd (Prod.snd k))))))) (h2 : x2 = (Ob.arr true 5 (List.map syntaxC
 (Prod.fst (iI C (List.getD (Syntax.items t) (Prod.fst k) default) k1 (Prod.fst (Prod.snd k)) (Prod.snd (Prod.snd k))))))) : Tc_iBuild_sLc t C q k x0 x1 x2 = Lc_iBuild_sLc t C q k
 k1 := by
  rw [h0, h1, h2]
  rfl
theorem EW0c_iBuild_sLc {t : Syntax} {C : List Capture} {q : Int} {k : Nat × Int × List Syntax} {x0 y0 : AC} {x1 y1 : Ob} (h0 : x0 = y0) (h1 : x1 = y1) : W0c_iBuild_sLc t C q k x0
 x1 = W0c_iBuild_sLc t C q k y0 y1 := by rw [h0, h1]
theorem EW1c_iBuild_sLc {t : Syntax} {C : List Capture} {q : Int} {k : Nat × Int × List Syntax} {x0 y0 : AC} {x1 y1 : Ob} {x2 y2 : SV} (h0 : x0 = y0) (h1 : x1 = y1) (h2 : x2 = y2)
 : W1c_iBuild_sLc t C q k x0 x1 x2 = W1c_iBuild_sLc t C q k y0 y1 y2 := by rw [h0, h1, h2]
abbrev a2__iBuild_sLc (t : Syntax) (k : Nat × Int × List Syntax) := (List.getD (Syntax.items t) (Prod.fst k) default)
abbrev a3__iBuild_sLc (t : Syntax) (C : List Capture) (k : Nat × Int × List Syntax) (k1 : Nat) := (iI C (a2__iBuild_sLc t k) k1 (Prod.fst (Prod.snd k)) (Prod.snd (Prod.snd k)))
abbrev a1__iBuild_sLc (t : Syntax) (C : List Capture) (k : Nat × Int × List Syntax) (k1 : Nat) := (bli (a2__iBuild_sLc t k) (stq C (a2__iBuild_sLc t k) k1) (Prod.snd (Prod.snd
 (a3__iBuild_sLc t C k k1))))
theorem run_c_iBuild_sLc (t : Syntax) (C : List Capture) (q : Int) (k : Nat × Int × List Syntax) (k1 : Nat) : aexec Try.prog (loopAt Try.f54 2) (Lc_iBuild_sLc t C q k k1) [Orc.br
 [Orc.bool false, Orc.ghost (Ghost.sel [0, 1, 2, 3, 4, 5, 8, 6, 7] [0, 2, 4, 6, 10, 11, 12, 15, 16, 19, 20, 171, 172, 173]), Orc.loop (List.length (rpX C (a2__iBuild_sLc t k)) - 0)
 (Lc_iBuild_sLd t C q k k1 0) (Ic_iBuild_sLd t C q k k1) [(True, AEx.exit 6, W0c_iBuild_sLd t C q k k1 (Ob.arr false 12 (List.map captureC (stq C (a2__iBuild_sLc t k) k1))),
 [Orc.call [Mode.ptr, Mode.rd, Mode.rd] (Ob.box [vI (Prod.snd (Prod.snd (a1__iBuild_sLc t C k k1)))] :: syntaxO (Prod.fst (a1__iBuild_sLc t C k k1))) (AV.tup [syntaxR (Prod.fst
 (a1__iBuild_sLc t C k k1)) 1, lb (Prod.fst (Prod.snd (a1__iBuild_sLc t C k k1)))]), Orc.br [Orc.ghost (Ghost.sel [0, 2] [6, 7]), Orc.out 1] [Orc.ghost (Ghost.sel [0, 1, 2, 3, 4,
 5, 7, 14] [0, 2, 4, 6, 10, 11, 12, 15, 16, 19]), Orc.goto (rqN C (a2__iBuild_sLc t k) - (k1 + 1)) (Lc_iBuild_sLc t C q k (k1 + 1))]])]] [Orc.ghost (Ghost.sel [0, 1, 2, 3, 6, 7]
 [0, 2, 4, 6, 10, 11]), Orc.out 0]] (loopK (Ic_iBuild_sLc t C q k) (Yc_iBuild_sLc t C q k) (rqN C (a2__iBuild_sLc t k) - k1)) = ((decide ((↑k1 : Int) < (↑(List.length (List.map
 captureC (Capture.each (List.getD C (Int.toNat (List.getD (rpi C (a2__iBuild_sLc t k) []) 0 0)) default)))) : Int)) = true → (∀ (e : List Cell), e ∈ List.map captureC C →
 List.length e = 12) ∧ (0 + List.length (List.map captureC C)) * 192 ≤ 140737488355328 ∧ (List.length (List.map intC (rpi C (a2__iBuild_sLc t k) [])) ≤ 9223372036854775807 →
 Tc_iBuild_sLd t C q k k1 (li 0) (Ob.arr false 12 (List.map captureC C)) = Lc_iBuild_sLd t C q k k1 0 ∧ Ic_iBuild_sLd t C q k k1 (List.length (rpX C (a2__iBuild_sLc t k)) - 0)
 (Lc_iBuild_sLd t C q k k1 0) ∧ LoopSem Try.prog (loopAt Try.f54 3) (Ic_iBuild_sLd t C q k k1) (Yc_iBuild_sLd t C q k k1) ∧ (True → P_c_iBuild (a2__iBuild_sLc t k) (stq C
 (a2__iBuild_sLc t k) k1) (Prod.snd (Prod.snd (a3__iBuild_sLc t C k k1))) ∧ ((!Prod.fst (Prod.snd (a1__iBuild_sLc t C k k1))) = true → Prod.fst (Prod.snd (blis (Syntax.items t) C
 (q - 1) [])) = false ∧ W1c_iBuild_sLc t C q k (vI (Prod.snd (Prod.snd (a1__iBuild_sLc t C k k1)))) (Ob.box [vI 0, vI 0, vS (ByteArray.mk #[]), AC.val (Cell.lit (Value.slice none 0
 0)), AC.val (Cell.lit (Value.slice none 0 0))]) (lb false) = W1c_iBuild_sLc t C q k (vI (Prod.snd (Prod.snd (blis (Syntax.items t) C (q - 1) [])))) (Ob.box [vI 0, vI 0, vS (mkS
 []), AC.val (Cell.lit (Value.slice none 0 0)), AC.val (Cell.lit (Value.slice none 0 0))]) (lb false)) ∧ ((!Prod.fst (Prod.snd (a1__iBuild_sLc t C k k1))) = false → (List.length
 (List.map syntaxC (Prod.fst (a3__iBuild_sLc t C k k1))) + 1) * 80 ≤ 140737488355328 ∧ rng IntKind.i64 ((↑k1 : Int) + 1) ∧ rqN C (a2__iBuild_sLc t k) - (k1 + 1) < rqN C
 (a2__iBuild_sLc t k) - k1 ∧ Tc_iBuild_sLc t C q k (li ((↑k1 : Int) + 1)) (vI (Prod.snd (Prod.snd (a1__iBuild_sLc t C k k1)))) (Ob.arr true 5 (List.map syntaxC (Prod.fst
 (a3__iBuild_sLc t C k k1)) ++ [syntaxF (Prod.fst (a1__iBuild_sLc t C k k1))])) = Lc_iBuild_sLc t C q k (k1 + 1) ∧ Ic_iBuild_sLc t C q k (rqN C (a2__iBuild_sLc t k) - (k1 + 1))
 (Lc_iBuild_sLc t C q k (k1 + 1)))) ∧ True)) ∧ (decide ((↑k1 : Int) < (↑(List.length (List.map captureC (Capture.each (List.getD C (Int.toNat (List.getD (rpi C (a2__iBuild_sLc t k)
 []) 0 0)) default)))) : Int)) = false → Prod.fst (Prod.snd (iR C (a2__iBuild_sLc t k) (Prod.fst (Prod.snd k)) (Prod.snd (Prod.snd k)))) = true ∧ W0c_iBuild_sLc t C q k (vI
 (Prod.snd (Prod.snd (a3__iBuild_sLc t C k k1)))) (Ob.arr true 5 (List.map syntaxC (Prod.fst (a3__iBuild_sLc t C k k1)))) = W0c_iBuild_sLc t C q k (vI (Prod.snd (Prod.snd (iR C
 (a2__iBuild_sLc t k) (Prod.fst (Prod.snd k)) (Prod.snd (Prod.snd k)))))) (Ob.arr true 5 (List.map syntaxC (Prod.fst (iR C (a2__iBuild_sLc t k) (Prod.fst (Prod.snd k)) (Prod.snd
 (Prod.snd k)))))))) := by kernel_rfl
theorem Hc_iBuild_sLb {t : Syntax} {C : List Capture} {q : Int} {k : Nat × Int × List Syntax} {k1 : Nat} {m : Nat} (h : (fun k1 => k1 ≤ List.length (rpX C (List.getD (Syntax.items
 t) (Prod.fst k) default)) ∧ List.length (rpX C (List.getD (Syntax.items t) (Prod.fst k) default)) ≤ 1048577 ∧ rqA C (List.take k1 (rpX C (List.getD (Syntax.items t) (Prod.fst k)
 default))) (lnI C (List.getD (rpX C (List.getD (Syntax.items t) (Prod.fst k) default)) 0 default)) = true ∧ 0 < List.length (rpX C (List.getD (Syntax.items t) (Prod.fst k)
 default)) ∧ Prod.fst k + 1 < List.length (Syntax.items t) ∧ List.length (Syntax.items t) ≤ 1048576 ∧ isDots (List.getD (Syntax.items t) (Prod.fst k + 1) default) = true ∧ 0 ≤
 Prod.fst (Prod.snd k) ∧ (↑(List.length (Prod.snd (Prod.snd k))) : Int) + Prod.fst (Prod.snd k) ≤ 2000 ∧ blis (Syntax.items t) C (q - 1) [] = blis (List.drop (Prod.fst k)
 (Syntax.items t)) C (Prod.fst (Prod.snd k)) (Prod.snd (Prod.snd k))) k1) (hm : (fun k1 => List.length (rpX C (List.getD (Syntax.items t) (Prod.fst k) default)) - k1) k1 = m) :
 Ic_iBuild_sLb t C q k m (Lc_iBuild_sLb t C q k k1) := hm ▸ Head.mk h
theorem Ec_iBuild_sLb {t : Syntax} {C : List Capture} {q : Int} {k : Nat × Int × List Syntax} {k1 : Nat} {x0 : SV} (h0 : x0 = (li (↑k1 : Int))) : Tc_iBuild_sLb t C q k x0 =
 Lc_iBuild_sLb t C q k k1 := by
  rw [h0]
  rfl
theorem EW1c_iBuild_sLb {t : Syntax} {C : List Capture} {q : Int} {k : Nat × Int × List Syntax} {x0 y0 : AC} {x1 y1 : Ob} {x2 y2 : SV} (h0 : x0 = y0) (h1 : x1 = y1) (h2 : x2 = y2)
 : W1c_iBuild_sLb t C q k x0 x1 x2 = W1c_iBuild_sLb t C q k y0 y1 y2 := by rw [h0, h1, h2]
abbrev a1__iBuild_sLb (t : Syntax) (k : Nat × Int × List Syntax) := (List.getD (Syntax.items t) (Prod.fst k) default)
abbrev a2__iBuild_sLb (t : Syntax) (C : List Capture) (k : Nat × Int × List Syntax) (k1 : Nat) := (List.getD C (Int.toNat (List.getD (rpi C (a1__iBuild_sLb t k) []) (Int.toNat (↑k1
 : Int)) 0)) default)
abbrev a3__iBuild_sLb (t : Syntax) (C : List Capture) (k : Nat × Int × List Syntax) (k1 : Nat) := ((↑(List.length (List.map captureC (Capture.each (a2__iBuild_sLb t C k k1)))) :
 Int) ≠ (↑(List.length (List.map captureC (Capture.each (List.getD C (Int.toNat (List.getD (rpi C (a1__iBuild_sLb t k) []) 0 0)) default)))) : Int))
theorem run_c_iBuild_sLb (t : Syntax) (C : List Capture) (q : Int) (k : Nat × Int × List Syntax) (k1 : Nat) : aexec Try.prog (loopAt Try.f54 1) (Lc_iBuild_sLb t C q k k1) [Orc.br
 [Orc.cells (intC (List.getD (rpi C (a1__iBuild_sLb t k) []) (Int.toNat (↑k1 : Int)) default)), Orc.cells (captureF (a2__iBuild_sLb t C k k1)), Orc.br [Orc.ghost (Ghost.sel [0, 2]
 [6, 7]), Orc.out 1] [Orc.ghost (Ghost.sel [0, 1, 2, 3, 4, 5, 6, 7] [0, 2, 4, 6, 10, 11, 12, 15, 16, 148, 149, 150]), Orc.goto (List.length (rpX C (a1__iBuild_sLb t k)) - (k1 + 1))
 (Lc_iBuild_sLb t C q k (k1 + 1))]] [Orc.ghost (Ghost.sel [0, 1, 2, 3, 4, 5, 6, 7] [0, 2, 4, 6, 10, 11, 12, 15, 16]), Orc.out 0]] (loopK (Ic_iBuild_sLb t C q k) (Yc_iBuild_sLb t C
 q k) (List.length (rpX C (a1__iBuild_sLb t k)) - k1)) = ((decide ((↑k1 : Int) < (↑(List.length (List.map intC (rpi C (a1__iBuild_sLb t k) []))) : Int)) = true → (0 ≤ (↑k1 : Int) ∧
 Int.toNat (↑k1 : Int) < List.length (List.map intC (rpi C (a1__iBuild_sLb t k) []))) ∧ (List.map intC (rpi C (a1__iBuild_sLb t k) []))[Int.toNat (↑k1 : Int)]? = some [cI
 (List.getD (rpi C (a1__iBuild_sLb t k) []) (Int.toNat (↑k1 : Int)) 0)] ∧ (0 ≤ List.getD (rpi C (a1__iBuild_sLb t k) []) (Int.toNat (↑k1 : Int)) 0 ∧ (List.map captureC C)[Int.toNat
 (List.getD (rpi C (a1__iBuild_sLb t k) []) (Int.toNat (↑k1 : Int)) 0)]? = some (captureF (a2__iBuild_sLb t C k k1))) ∧ (List.length (List.map captureC (Capture.each
 (a2__iBuild_sLb t C k k1))) ≤ 9223372036854775807 → (decide (a3__iBuild_sLb t C k k1) = true → Prod.fst (Prod.snd (blis (Syntax.items t) C (q - 1) [])) = false ∧ W1c_iBuild_sLa t
 C q (vI (Prod.fst (Prod.snd k))) (Ob.box [vI 0, vI 0, vS (ByteArray.mk #[]), AC.val (Cell.lit (Value.slice none 0 0)), AC.val (Cell.lit (Value.slice none 0 0))]) (lb false) =
 W1c_iBuild_sLb t C q k (vI (Prod.snd (Prod.snd (blis (Syntax.items t) C (q - 1) [])))) (Ob.box [vI 0, vI 0, vS (mkS []), AC.val (Cell.lit (Value.slice none 0 0)), AC.val (Cell.lit
 (Value.slice none 0 0))]) (lb false)) ∧ (decide (a3__iBuild_sLb t C k k1) = false → rng IntKind.i64 ((↑k1 : Int) + 1) ∧ List.length (rpX C (a1__iBuild_sLb t k)) - (k1 + 1) <
 List.length (rpX C (a1__iBuild_sLb t k)) - k1 ∧ Tc_iBuild_sLb t C q k (li ((↑k1 : Int) + 1)) = Lc_iBuild_sLb t C q k (k1 + 1) ∧ Ic_iBuild_sLb t C q k (List.length (rpX C
 (a1__iBuild_sLb t k)) - (k1 + 1)) (Lc_iBuild_sLb t C q k (k1 + 1))))) ∧ (decide ((↑k1 : Int) < (↑(List.length (List.map intC (rpi C (a1__iBuild_sLb t k) []))) : Int)) = false →
 rqB C (a1__iBuild_sLb t k) = true ∧ W0c_iBuild_sLb t C q k = W0c_iBuild_sLb t C q k)) := by kernel_rfl
theorem Hc_iBuild_sLa {t : Syntax} {C : List Capture} {q : Int} {k : Nat × Int × List Syntax} {m : Nat} (h : (fun k => List.length (Syntax.items t) ≥ Prod.fst k ∧ List.length
 (Syntax.items t) ≤ 1048576 ∧ blis (Syntax.items t) C (q - 1) [] = blis (List.drop (Prod.fst k) (Syntax.items t)) C (Prod.fst (Prod.snd k)) (Prod.snd (Prod.snd k)) ∧ 0 ≤ Prod.fst
 (Prod.snd k) ∧ (↑(List.length (Prod.snd (Prod.snd k))) : Int) + Prod.fst (Prod.snd k) ≤ 2000) k) (hm : (fun k => List.length (Syntax.items t) - Prod.fst k) k = m) : Ic_iBuild_sLa
 t C q m (Lc_iBuild_sLa t C q k) := hm ▸ Head.mk h
theorem Ec_iBuild_sLa {t : Syntax} {C : List Capture} {q : Int} {k : Nat × Int × List Syntax} {x0 : SV} {x1 : AC} {x2 : Ob} (h0 : x0 = (li (↑(Prod.fst k) : Int))) (h1 : x1 = (vI
 (Prod.fst (Prod.snd k)))) (h2 : x2 = (Ob.arr true 5 (List.map syntaxC (Prod.snd (Prod.snd k))))) : Tc_iBuild_sLa t C q x0 x1 x2 = Lc_iBuild_sLa t C q k := by
  rw [h0, h1, h2]
  rfl
theorem EW0c_iBuild_sLa {t : Syntax} {C : List Capture} {q : Int} {x0 y0 : AC} {x1 y1 : Ob} (h0 : x0 = y0) (h1 : x1 = y1) : W0c_iBuild_sLa t C q x0 x1 = W0c_iBuild_sLa t C q y0 y1
 := by rw [h0, h1]
theorem EW1c_iBuild_sLa {t : Syntax} {C : List Capture} {q : Int} {x0 y0 : AC} {x1 y1 : Ob} {x2 y2 : SV} (h0 : x0 = y0) (h1 : x1 = y1) (h2 : x2 = y2) : W1c_iBuild_sLa t C q x0 x1
 x2 = W1c_iBuild_sLa t C q y0 y1 y2 := by rw [h0, h1, h2]
abbrev a1__iBuild_sLa (t : Syntax) (k : Nat × Int × List Syntax) := (List.getD (Syntax.items t) (Prod.fst k) default)
abbrev a4__iBuild_sLa (t : Syntax) (C : List Capture) (k : Nat × Int × List Syntax) := (bli (a1__iBuild_sLa t k) C (Prod.fst (Prod.snd k)))
abbrev a11__iBuild_sLa (t : Syntax) (C : List Capture) (k : Nat × Int × List Syntax) := (Prod.fst k + 1, Prod.snd (Prod.snd (a4__iBuild_sLa t C k)), Prod.snd (Prod.snd k) ++
 [Prod.fst (a4__iBuild_sLa t C k)])
abbrev a2__iBuild_sLa (t : Syntax) (C : List Capture) (q : Int) (k : Nat × Int × List Syntax) := ((!Prod.fst (Prod.snd (a4__iBuild_sLa t C k))) = false → (List.length (List.map
 syntaxC (Prod.snd (Prod.snd k))) + 1) * 80 ≤ 140737488355328 ∧ rng IntKind.i64 ((↑(Prod.fst k) : Int) + 1) ∧ List.length (Syntax.items t) - (Prod.fst k + 1) < List.length
 (Syntax.items t) - Prod.fst k ∧ Tc_iBuild_sLa t C q (li ((↑(Prod.fst k) : Int) + 1)) (vI (Prod.snd (Prod.snd (a4__iBuild_sLa t C k)))) (Ob.arr true 5 (List.map syntaxC (Prod.snd
 (Prod.snd k)) ++ [syntaxF (Prod.fst (a4__iBuild_sLa t C k))])) = Lc_iBuild_sLa t C q (a11__iBuild_sLa t C k) ∧ Ic_iBuild_sLa t C q (List.length (Syntax.items t) - (Prod.fst k +
 1)) (Lc_iBuild_sLa t C q (a11__iBuild_sLa t C k)))
abbrev a3__iBuild_sLa  := (Ob.box [vI 0, vI 0, vS (mkS []), AC.val (Cell.lit (Value.slice none 0 0)), AC.val (Cell.lit (Value.slice none 0 0))])
abbrev a5__iBuild_sLa (t : Syntax) (C : List Capture) (q : Int) := (Prod.snd (blis (Syntax.items t) C (q - 1) []))
abbrev a6__iBuild_sLa (t : Syntax) (C : List Capture) (k : Nat × Int × List Syntax) := (iR C (a1__iBuild_sLa t k) (Prod.fst (Prod.snd k)) (Prod.snd (Prod.snd k)))
abbrev a7__iBuild_sLa (t : Syntax) (C : List Capture) (q : Int) (k : Nat × Int × List Syntax) := ((!Prod.fst (Prod.snd (a4__iBuild_sLa t C k))) = true → Prod.fst (a5__iBuild_sLa t
 C q) = false ∧ W1c_iBuild_sLa t C q (vI (Prod.snd (Prod.snd (a4__iBuild_sLa t C k)))) (Ob.box [vI 0, vI 0, vS (ByteArray.mk #[]), AC.val (Cell.lit (Value.slice none 0 0)), AC.val
 (Cell.lit (Value.slice none 0 0))]) (lb false) = W1c_iBuild_sLa t C q (vI (Prod.snd (a5__iBuild_sLa t C q))) a3__iBuild_sLa (lb false))
abbrev a8__iBuild_sLa (t : Syntax) (C : List Capture) (q : Int) := (Prod.fst (a5__iBuild_sLa t C q) = false → Prod.fst (a5__iBuild_sLa t C q) = false ∧ W1c_iBuild_sLa t C q (vI
 (Prod.snd (a5__iBuild_sLa t C q))) (Ob.box [vI 0, vI 0, vS (mkS []), AC.val (Cell.lit (Value.slice none 0 0)), AC.val (Cell.lit (Value.slice none 0 0))]) (lb false) =
 W1c_iBuild_sLa t C q (vI (Prod.snd (a5__iBuild_sLa t C q))) a3__iBuild_sLa (lb false))
abbrev a9__iBuild_sLa (t : Syntax) (C : List Capture) (q : Int) (k : Nat × Int × List Syntax) := [Orc.ghost (Ghost.sel [0, 1, 2, 3, 4, 12] [0, 2, 4, 6, 10, 11]), Orc.goto
 (List.length (Syntax.items t) - (Prod.fst k + 1)) (Lc_iBuild_sLa t C q (a11__iBuild_sLa t C k))]
abbrev a10__iBuild_sLa (t : Syntax) (k : Nat × Int × List Syntax) := (List.getD (Syntax.items t) (Prod.fst k + 1) default)
theorem run_c_iBuild_sLa (t : Syntax) (C : List Capture) (q : Int) (k : Nat × Int × List Syntax) : aexec Try.prog (loopAt Try.f54 0) (Lc_iBuild_sLa t C q k) [Orc.br [Orc.cells
 (syntaxF (a1__iBuild_sLa t k)), Orc.br [Orc.bool true, Orc.call [Mode.ptr, Mode.rd, Mode.rd] (Ob.box [vI (Prod.snd (Prod.snd (a4__iBuild_sLa t C k)))] :: syntaxO (Prod.fst
 (a4__iBuild_sLa t C k))) (AV.tup [syntaxR (Prod.fst (a4__iBuild_sLa t C k)) 1, lb (Prod.fst (Prod.snd (a4__iBuild_sLa t C k)))]), Orc.br [Orc.ghost (Ghost.sel [0, 2] [6, 7]),
 Orc.out 1] (a9__iBuild_sLa t C q k)] [Orc.cells (syntaxF (a10__iBuild_sLa t k)), Orc.call [Mode.rd] [] (AV.sv (lb (isDots (a10__iBuild_sLa t k)))), Orc.br [Orc.call [Mode.ptr,
 Mode.rd, Mode.rd] (Ob.box [vI (Prod.snd (Prod.snd (a4__iBuild_sLa t C k)))] :: syntaxO (Prod.fst (a4__iBuild_sLa t C k))) (AV.tup [syntaxR (Prod.fst (a4__iBuild_sLa t C k)) 1, lb
 (Prod.fst (Prod.snd (a4__iBuild_sLa t C k)))]), Orc.br [Orc.ghost (Ghost.sel [0, 2] [6, 7]), Orc.out 1] (a9__iBuild_sLa t C q k)] [Orc.call [Mode.rd, Mode.rd, Mode.own true 1]
 [Ob.dead, Ob.arr true 1 (List.map intC (rpi C (a1__iBuild_sLa t k) []))] (AV.sv (SV.one (AC.ref 1))), Orc.br [Orc.ghost (Ghost.sel [0, 2] [6, 7]), Orc.out 1] [Orc.cells (intC
 (List.getD (rpi C (a1__iBuild_sLa t k) []) 0 default)), Orc.cells (captureF (List.getD C (Int.toNat (List.getD (rpi C (a1__iBuild_sLa t k) []) 0 0)) default)), Orc.ghost
 (Ghost.sel [0, 1, 2, 3, 6, 8, 4, 5] [0, 2, 4, 6, 10, 11, 12, 15, 16, 148, 149, 150]), Orc.loop (List.length (rpX C (a1__iBuild_sLa t k)) - 0) (Lc_iBuild_sLb t C q k 0)
 (Ic_iBuild_sLb t C q k) [(rqB C (a1__iBuild_sLa t k) = true, AEx.exit 2, W0c_iBuild_sLb t C q k, [Orc.ghost (Ghost.sel [0, 1, 2, 3, 4, 5, 6, 7] [0, 2, 4, 6, 10, 11, 12, 15, 16,
 19]), Orc.loop (rqN C (a1__iBuild_sLa t k) - 0) (Lc_iBuild_sLc t C q k 0) (Ic_iBuild_sLc t C q k) [(Prod.fst (Prod.snd (a6__iBuild_sLa t C k)) = true, AEx.exit 4, W0c_iBuild_sLc t
 C q k (vI (Prod.snd (Prod.snd (a6__iBuild_sLa t C k)))) (Ob.arr true 5 (List.map syntaxC (Prod.fst (a6__iBuild_sLa t C k)))), [Orc.ghost (Ghost.sel [0, 1, 2, 3, 4, 5] [0, 2, 4, 6,
 10, 11]), Orc.goto (List.length (Syntax.items t) - (Prod.fst k + 1 + 1)) (Lc_iBuild_sLa t C q (Prod.fst k + 1 + 1, Prod.snd (Prod.snd (a6__iBuild_sLa t C k)), Prod.fst
 (a6__iBuild_sLa t C k)))]), (Prod.fst (a5__iBuild_sLa t C q) = false, AEx.ret, W1c_iBuild_sLc t C q k (vI (Prod.snd (a5__iBuild_sLa t C q))) a3__iBuild_sLa (lb false), [Orc.ghost
 (Ghost.sel [0, 1] [6, 7]), Orc.out 1])]]), (Prod.fst (a5__iBuild_sLa t C q) = false, AEx.ret, W1c_iBuild_sLb t C q k (vI (Prod.snd (a5__iBuild_sLa t C q))) a3__iBuild_sLa (lb
 false), [Orc.ghost (Ghost.sel [0, 1] [6, 7]), Orc.out 1])]]]]] [Orc.ghost (Ghost.sel [0, 2, 3, 4, 5] [6, 10]), Orc.out 0]] (loopK (Ic_iBuild_sLa t C q) (Yc_iBuild_sLa t C q)
 (List.length (Syntax.items t) - Prod.fst k)) = (List.length (List.map syntaxC (Syntax.items t)) ≤ 9223372036854775807 → (decide ((↑(Prod.fst k) : Int) < (↑(List.length (List.map
 syntaxC (Syntax.items t))) : Int)) = true → (0 ≤ (↑(Prod.fst k) : Int) ∧ (List.map syntaxC (Syntax.items t))[Int.toNat (↑(Prod.fst k) : Int)]? = some (syntaxF (a1__iBuild_sLa t
 k))) ∧ rng IntKind.i64 ((↑(Prod.fst k) : Int) + 1) ∧ (List.length (List.map syntaxC (Syntax.items t)) ≤ 9223372036854775807 → (decide ((↑(Prod.fst k) : Int) + 1 = (↑(List.length
 (List.map syntaxC (Syntax.items t))) : Int)) = true → true = true ∧ P_c_iBuild (a1__iBuild_sLa t k) C (Prod.fst (Prod.snd k)) ∧ (a7__iBuild_sLa t C q k) ∧ (a2__iBuild_sLa t C q
 k)) ∧ (decide ((↑(Prod.fst k) : Int) + 1 = (↑(List.length (List.map syntaxC (Syntax.items t))) : Int)) = false → rng IntKind.i64 ((↑(Prod.fst k) : Int) + 1) ∧ (0 ≤ (↑(Prod.fst k)
 : Int) + 1 ∧ (List.map syntaxC (Syntax.items t))[Int.toNat ((↑(Prod.fst k) : Int) + 1)]? = some (syntaxF (a10__iBuild_sLa t k))) ∧ P_c_iDots (a10__iBuild_sLa t k) ∧ ((!isDots
 (a10__iBuild_sLa t k)) = true → P_c_iBuild (a1__iBuild_sLa t k) C (Prod.fst (Prod.snd k)) ∧ (a7__iBuild_sLa t C q k) ∧ (a2__iBuild_sLa t C q k)) ∧ ((!isDots (a10__iBuild_sLa t k))
 = false → rng IntKind.i64 ((↑(Prod.fst k) : Int) + 1) ∧ P_c_iRep (a1__iBuild_sLa t k) C [] ∧ (List.length (List.map intC (rpi C (a1__iBuild_sLa t k) [])) ≤ 9223372036854775807 →
 (decide ((↑(List.length (List.map intC (rpi C (a1__iBuild_sLa t k) []))) : Int) = 0) = true → Prod.fst (a5__iBuild_sLa t C q) = false ∧ W1c_iBuild_sLa t C q (vI (Prod.fst
 (Prod.snd k))) (Ob.box [vI 0, vI 0, vS (ByteArray.mk #[]), AC.val (Cell.lit (Value.slice none 0 0)), AC.val (Cell.lit (Value.slice none 0 0))]) (lb false) = W1c_iBuild_sLa t C q
 (vI (Prod.snd (a5__iBuild_sLa t C q))) a3__iBuild_sLa (lb false)) ∧ (decide ((↑(List.length (List.map intC (rpi C (a1__iBuild_sLa t k) []))) : Int) = 0) = false → ((0 : Int) ≤ 0 ∧
 0 < List.length (List.map intC (rpi C (a1__iBuild_sLa t k) []))) ∧ (List.map intC (rpi C (a1__iBuild_sLa t k) []))[0]? = some [cI (List.getD (rpi C (a1__iBuild_sLa t k) []) 0 0)]
 ∧ (0 ≤ List.getD (rpi C (a1__iBuild_sLa t k) []) 0 0 ∧ (List.map captureC C)[Int.toNat (List.getD (rpi C (a1__iBuild_sLa t k) []) 0 0)]? = some (captureF (List.getD C (Int.toNat
 (List.getD (rpi C (a1__iBuild_sLa t k) []) 0 0)) default))) ∧ (List.length (List.map captureC (Capture.each (List.getD C (Int.toNat (List.getD (rpi C (a1__iBuild_sLa t k) []) 0
 0)) default))) ≤ 9223372036854775807 → List.length (List.map intC (rpi C (a1__iBuild_sLa t k) [])) ≤ 9223372036854775807 → Tc_iBuild_sLb t C q k (li 0) = Lc_iBuild_sLb t C q k 0 ∧
 Ic_iBuild_sLb t C q k (List.length (rpX C (a1__iBuild_sLa t k)) - 0) (Lc_iBuild_sLb t C q k 0) ∧ LoopSem Try.prog (loopAt Try.f54 1) (Ic_iBuild_sLb t C q k) (Yc_iBuild_sLb t C q
 k) ∧ (rqB C (a1__iBuild_sLa t k) = true → Tc_iBuild_sLc t C q k (li 0) (vI (Prod.fst (Prod.snd k))) (Ob.arr true 5 (List.map syntaxC (Prod.snd (Prod.snd k)))) = Lc_iBuild_sLc t C
 q k 0 ∧ Ic_iBuild_sLc t C q k (rqN C (a1__iBuild_sLa t k) - 0) (Lc_iBuild_sLc t C q k 0) ∧ LoopSem Try.prog (loopAt Try.f54 2) (Ic_iBuild_sLc t C q k) (Yc_iBuild_sLc t C q k) ∧
 (Prod.fst (Prod.snd (a6__iBuild_sLa t C k)) = true → rng IntKind.i64 ((↑(Prod.fst k) : Int) + 1 + 1) ∧ List.length (Syntax.items t) - (Prod.fst k + 1 + 1) < List.length
 (Syntax.items t) - Prod.fst k ∧ Tc_iBuild_sLa t C q (li ((↑(Prod.fst k) : Int) + 1 + 1)) (vI (Prod.snd (Prod.snd (a6__iBuild_sLa t C k)))) (Ob.arr true 5 (List.map syntaxC
 (Prod.fst (a6__iBuild_sLa t C k)))) = Lc_iBuild_sLa t C q (Prod.fst k + 1 + 1, Prod.snd (Prod.snd (a6__iBuild_sLa t C k)), Prod.fst (a6__iBuild_sLa t C k)) ∧ Ic_iBuild_sLa t C q
 (List.length (Syntax.items t) - (Prod.fst k + 1 + 1)) (Lc_iBuild_sLa t C q (Prod.fst k + 1 + 1, Prod.snd (Prod.snd (a6__iBuild_sLa t C k)), Prod.fst (a6__iBuild_sLa t C k)))) ∧
 (a8__iBuild_sLa t C q) ∧ True) ∧ (a8__iBuild_sLa t C q) ∧ True))))))) ∧ (decide ((↑(Prod.fst k) : Int) < (↑(List.length (List.map syntaxC (Syntax.items t))) : Int)) = false →
 Prod.fst (a5__iBuild_sLa t C q) = true ∧ W0c_iBuild_sLa t C q (vI (Prod.fst (Prod.snd k))) (Ob.arr true 5 (List.map syntaxC (Prod.snd (Prod.snd k)))) = W0c_iBuild_sLa t C q (vI
 (Prod.snd (a5__iBuild_sLa t C q))) (Ob.arr true 5 (List.map syntaxC (Prod.fst (blis (Syntax.items t) C (q - 1) [])))))) := by kernel_rfl
theorem Sc_iBuild_sLd (t : Syntax) (C : List Capture) (q : Int) (h : 0 ≤ q ∧ q ≤ 2000 ∧ wY t ≤ 1048576 ∧ List.length C ≤ 1048576) (hC : ∀ (z : Capture), z ∈ C → wP z ≤ 1048576) (ih
 : ∀ (z : Syntax), z ∈ Syntax.items t → ∀ (C : List Capture) (q : Int), 0 ≤ q ∧ q ≤ 2000 ∧ wY z ≤ 1048576 ∧ List.length C ≤ 1048576 → (∀ (z : Capture), z ∈ C → wP z ≤ 1048576) →
 P_c_iBuild z C q) (k : Nat × Int × List Syntax) (k1 : Nat)  : LoopSem Try.prog (loopAt Try.f54 3) (Ic_iBuild_sLd t C q k k1) (Yc_iBuild_sLd t C q k k1) := by
  refine LoopSem.ofHead wide fun k2 h => ⟨_, _, run_c_iBuild_sLd t C q k k1 k2, ?_⟩
  try delta a2__iBuild_sLd a1__iBuild_sLd a3__iBuild_sLd
  obtain ⟨i, m, O⟩ := k
  simp only at *
  have hB := h.2.2.2
  have g1 := @rpX_at C (t.items.getD i default) k2
  have g3 : k2 < (rpX C (t.items.getD i default)).length → (C.getD ((rpX C (t.items.getD i default)).getD k2 0).toNat default).each.length = rqN C (t.items.getD i default) := fun a => rqB_each hB a
  have g4 := stqT_len C k1 ((rpX C (t.items.getD i default)).take k2)
  have g5 : k2 < (rpX C (t.items.getD i default)).length → (List.map captureC (stqT C k1 ((rpX C (t.items.getD i default)).take k2))).set ((rpX C (t.items.getD i default)).getD k2 0).toNat (captureF ((C.getD ((rpX C (t.items.getD i default)).getD k2 0).toNat default).each.getD k1 default)) = List.map captureC (stqT C k1 ((rpX C (t.items.getD i default)).take (k2 + 1))) := fun a => by rw [cap_set, stqT_step a]; rfl
  have g6 : (rpX C (t.items.getD i default)).length ≤ k2 → stqT C k1 ((rpX C (t.items.getD i default)).take k2) = stq C (t.items.getD i default) k1 := fun a => stq_end a
  with_reducible repeat' (first | apply And.intro | exact flatI | exact flatS | exact rowLens | exact ih | (intro; skip) | apply obsN | apply obsC | apply obA | apply obM | apply obB | apply svA | apply tupA | apply lcA | apply lcS | apply svC | apply liC | apply lbC | apply lsC | apply vIc | apply vBc | apply vSc | apply vLc | apply mapC | apply Hc_iBuild_sLa | apply Ec_iBuild_sLa | apply Hc_iBuild_sLb | apply Ec_iBuild_sLb | apply Hc_iBuild_sLc | apply Ec_iBuild_sLc | apply Hc_iBuild_sLd | apply Ec_iBuild_sLd | apply EW0c_iBuild_sLd | apply EW0c_iBuild_sLc | apply EW1c_iBuild_sLc | apply EW1c_iBuild_sLb | apply EW0c_iBuild_sLa | apply EW1c_iBuild_sLa | apply c_iFind | apply c_iMeaY | apply c_iCopyY | apply c_yIInts | apply c_iDots | apply c_iRep)
  all_goals (try simp only [std] at *)
  all_goals (try (first | with_reducible apply c_iFind | with_reducible apply c_iMeaY | with_reducible apply c_iCopyY | with_reducible apply c_yIInts | with_reducible apply c_iDots | with_reducible apply c_iRep | with_reducible apply ih | (simp only [← List.map_append]; first | with_reducible apply c_iFind | with_reducible apply c_iMeaY | with_reducible apply c_iCopyY | with_reducible apply c_yIInts | with_reducible apply c_iDots | with_reducible apply c_iRep | with_reducible apply ih)))
  all_goals (try (first | with_reducible rfl | omega | assumption | (refine (decide_eq_true ?_).symm; assumption) | (refine (decide_eq_false ?_).symm; assumption) | (refine rowGet ?_; (first | omega | (simp only [std]; omega) | grind)) | (refine getC ?_ rfl; (first | omega | (simp only [std]; omega) | grind)) | (show (_ : St) = _; rfl)))
  all_goals (try simp only [Bool.not_eq_true', Bool.not_eq_false', decide_eq_false_iff_not, decide_eq_true_eq, Decidable.not_not] at *)
  all_goals (try simp only [rpX, rqN, dfI] at *)
  all_goals (try first | exact hB | omega | (have := g1 (by omega); omega) | (have := g1 (by omega); exact getC this.2.2 (captureC_eq _)) | exact getC (by have := g3 (by omega); omega) (captureC_eq _) | exact g5 (by omega) | exact g6 (by omega))
theorem Sc_iBuild_sLc (t : Syntax) (C : List Capture) (q : Int) (h : 0 ≤ q ∧ q ≤ 2000 ∧ wY t ≤ 1048576 ∧ List.length C ≤ 1048576) (hC : ∀ (z : Capture), z ∈ C → wP z ≤ 1048576) (ih
 : ∀ (z : Syntax), z ∈ Syntax.items t → ∀ (C : List Capture) (q : Int), 0 ≤ q ∧ q ≤ 2000 ∧ wY z ≤ 1048576 ∧ List.length C ≤ 1048576 → (∀ (z : Capture), z ∈ C → wP z ≤ 1048576) →
 P_c_iBuild z C q) (k : Nat × Int × List Syntax)  : LoopSem Try.prog (loopAt Try.f54 2) (Ic_iBuild_sLc t C q k) (Yc_iBuild_sLc t C q k) := by
  refine LoopSem.ofHead wide fun k1 h => ⟨_, _, run_c_iBuild_sLc t C q k k1, ?_⟩
  try delta a2__iBuild_sLc a3__iBuild_sLc a1__iBuild_sLc
  obtain ⟨i, m, O⟩ := k
  simp only at *
  have hd := h.2.2.2.2.2.2.1
  have H := h.2.2.2.2.2.2.2.2.2
  have hB := h.2.1
  have hI := h.2.2.1
  have hj := h.1
  have hi := h.2.2.2.2.1
  have g1 := iI_step C (t.items.getD i default) k1 m O hI
  have g2 := iI_bd C (t.items.getD i default) k1 m O (by omega) hI
  have g8 := @size_item t i (Nat.lt_of_succ_lt hi)
  have g9 : stqT C k1 ((rpX C (t.items.getD i default)).take 0) = C := rfl
  have g11 : 0 < (rpX C (t.items.getD i default)).length := by
    simp only [rqB, Bool.and_eq_true, Bool.not_eq_true', decide_eq_false_iff_not] at hB
    omega
  have g12 := rqN_le hC g11
  have b0 : k1 < rqN C (t.items.getD i default) → (bli (t.items.getD i default) (stq C (t.items.getD i default) k1) (iI C (t.items.getD i default) k1 m O).2.2).2.1 = false → (blis t.items C (q - 1) []).2.1 = false ∧ (blis t.items C (q - 1) []).2.2 = (bli (t.items.getD i default) (stq C (t.items.getD i default) k1) (iI C (t.items.getD i default) k1 m O).2.2).2.2 := fun a c => by
    have r := iR_bad hB a hI c
    rw [H, blis_dots hi hd, if_neg (by rw [r.1]; decide)]; exact r
  have b1 : rqN C (t.items.getD i default) ≤ k1 → iR C (t.items.getD i default) m O = iI C (t.items.getD i default) k1 m O := fun a => iR_eq hB hj a
  with_reducible repeat' (first | apply And.intro | exact flatI | exact flatS | exact rowLens | exact ih | (intro; skip) | apply obsN | apply obsC | apply obA | apply obM | apply obB | apply svA | apply tupA | apply lcA | apply lcS | apply svC | apply liC | apply lbC | apply lsC | apply vIc | apply vBc | apply vSc | apply vLc | apply mapC | apply Hc_iBuild_sLa | apply Ec_iBuild_sLa | apply Hc_iBuild_sLb | apply Ec_iBuild_sLb | apply Hc_iBuild_sLc | apply Ec_iBuild_sLc | apply Hc_iBuild_sLd | apply Ec_iBuild_sLd | apply Sc_iBuild_sLd | apply EW0c_iBuild_sLd | apply EW0c_iBuild_sLc | apply EW1c_iBuild_sLc | apply EW1c_iBuild_sLb | apply EW0c_iBuild_sLa | apply EW1c_iBuild_sLa | apply c_iFind | apply c_iMeaY | apply c_iCopyY | apply c_yIInts | apply c_iDots | apply c_iRep | apply ih)
  all_goals (try simp only [std] at *)
  all_goals (try (first | with_reducible apply c_iFind | with_reducible apply c_iMeaY | with_reducible apply c_iCopyY | with_reducible apply c_yIInts | with_reducible apply c_iDots | with_reducible apply c_iRep | with_reducible apply ih | (simp only [← List.map_append]; first | with_reducible apply c_iFind | with_reducible apply c_iMeaY | with_reducible apply c_iCopyY | with_reducible apply c_yIInts | with_reducible apply c_iDots | with_reducible apply c_iRep | with_reducible apply ih)))
  all_goals (try (first | with_reducible rfl | omega | assumption | (refine (decide_eq_true ?_).symm; assumption) | (refine (decide_eq_false ?_).symm; assumption) | (refine rowGet ?_; (first | omega | (simp only [std]; omega) | grind)) | (refine getC ?_ rfl; (first | omega | (simp only [std]; omega) | grind)) | (show (_ : St) = _; rfl)))
  all_goals (try simp only [Bool.not_eq_true', Bool.not_eq_false', decide_eq_false_iff_not, decide_eq_true_eq, Decidable.not_not] at *)
  all_goals (try simp only [rpX, rqN, dfI] at *)
  all_goals (try first | exact hd | exact H | exact hB | exact getD_mem' hi | exact hC _ (by assumption) | exact stqT_w hC _ _ _ (by assumption) | exact g9.symm | (rw [stqT_len]; omega) | omega | exact (b0 (by omega) (by assumption)).1 | exact (b0 (by omega) (by assumption)).2.symm | (rw [g1]; done) | (rw [g1]; assumption) | (rw [g1]; exact rowSnoc (C := syntaxC) _ _) | (rw [b1 (by omega)]; done) | (rw [b1 (by omega)]; exact hI))
  all_goals (try exact getD_mem' (Nat.lt_of_succ_lt hi))
theorem Sc_iBuild_sLb (t : Syntax) (C : List Capture) (q : Int) (h : 0 ≤ q ∧ q ≤ 2000 ∧ wY t ≤ 1048576 ∧ List.length C ≤ 1048576) (hC : ∀ (z : Capture), z ∈ C → wP z ≤ 1048576) (ih
 : ∀ (z : Syntax), z ∈ Syntax.items t → ∀ (C : List Capture) (q : Int), 0 ≤ q ∧ q ≤ 2000 ∧ wY z ≤ 1048576 ∧ List.length C ≤ 1048576 → (∀ (z : Capture), z ∈ C → wP z ≤ 1048576) →
 P_c_iBuild z C q) (k : Nat × Int × List Syntax)  : LoopSem Try.prog (loopAt Try.f54 1) (Ic_iBuild_sLb t C q k) (Yc_iBuild_sLb t C q k) := by
  refine LoopSem.ofHead wide fun k1 h => ⟨_, _, run_c_iBuild_sLb t C q k k1, ?_⟩
  try delta a1__iBuild_sLb a2__iBuild_sLb a3__iBuild_sLb
  obtain ⟨i, m, O⟩ := k
  simp only at *
  have hd := h.2.2.2.2.2.2.1
  have H := h.2.2.2.2.2.2.2.2.2
  have hA := h.2.2.1
  have h00 := h.2.2.2.1
  have g1 := @rpX_at C (t.items.getD i default) k1
  have g3 : (rpX C (t.items.getD i default)).length ≤ k1 → rqB C (t.items.getD i default) = true := fun a => rqB_of h00 a hA
  have g4 : k1 < (rpX C (t.items.getD i default)).length → ¬ ((C.getD ((rpX C (t.items.getD i default)).getD k1 0).toNat default).each.length : Int) = ((C.getD ((rpX C (t.items.getD i default)).getD 0 0).toNat default).each.length : Int) → blis t.items C (q - 1) [] = (O, false, m) := fun a b => by rw [H, blis_dots h.2.2.2.2.1 hd, rqB_no a b]; rfl
  have g5 : k1 < (rpX C (t.items.getD i default)).length → ((C.getD ((rpX C (t.items.getD i default)).getD k1 0).toNat default).each.length : Int) = ((C.getD ((rpX C (t.items.getD i default)).getD 0 0).toNat default).each.length : Int) → rqA C ((rpX C (t.items.getD i default)).take (k1 + 1)) (lnI C ((rpX C (t.items.getD i default)).getD 0 default)) = true := fun a b => rqA_step' a hA b
  with_reducible repeat' (first | apply And.intro | exact flatI | exact flatS | exact rowLens | exact ih | (intro; skip) | apply obsN | apply obsC | apply obA | apply obM | apply obB | apply svA | apply tupA | apply lcA | apply lcS | apply svC | apply liC | apply lbC | apply lsC | apply vIc | apply vBc | apply vSc | apply vLc | apply mapC | apply Hc_iBuild_sLa | apply Ec_iBuild_sLa | apply Hc_iBuild_sLb | apply Ec_iBuild_sLb | apply Hc_iBuild_sLc | apply Ec_iBuild_sLc | apply Hc_iBuild_sLd | apply Ec_iBuild_sLd | apply Sc_iBuild_sLc | apply Sc_iBuild_sLd | apply EW0c_iBuild_sLd | apply EW0c_iBuild_sLc | apply EW1c_iBuild_sLc | apply EW1c_iBuild_sLb | apply EW0c_iBuild_sLa | apply EW1c_iBuild_sLa | apply c_iFind | apply c_iMeaY | apply c_iCopyY | apply c_yIInts | apply c_iDots | apply c_iRep)
  all_goals (try simp only [std] at *)
  all_goals (try (first | with_reducible apply c_iFind | with_reducible apply c_iMeaY | with_reducible apply c_iCopyY | with_reducible apply c_yIInts | with_reducible apply c_iDots | with_reducible apply c_iRep | with_reducible apply ih | (simp only [← List.map_append]; first | with_reducible apply c_iFind | with_reducible apply c_iMeaY | with_reducible apply c_iCopyY | with_reducible apply c_yIInts | with_reducible apply c_iDots | with_reducible apply c_iRep | with_reducible apply ih)))
  all_goals (try (first | with_reducible rfl | omega | assumption | (refine (decide_eq_true ?_).symm; assumption) | (refine (decide_eq_false ?_).symm; assumption) | (refine rowGet ?_; (first | omega | (simp only [std]; omega) | grind)) | (refine getC ?_ rfl; (first | omega | (simp only [std]; omega) | grind)) | (show (_ : St) = _; rfl)))
  all_goals (try simp only [Bool.not_eq_true', Bool.not_eq_false', decide_eq_false_iff_not, decide_eq_true_eq, Decidable.not_not] at *)
  all_goals (try simp only [rpX, rqN, dfI] at *)
  all_goals (try first | exact hd | exact H | omega | exact g3 (by omega) | exact g5 (by omega) (by assumption) | (have := g1 (by omega); omega))
  all_goals (try (rw [g4 (by omega) (by assumption)]; first | done | rfl))
theorem Sc_iBuild_sLa (t : Syntax) (C : List Capture) (q : Int) (h : 0 ≤ q ∧ q ≤ 2000 ∧ wY t ≤ 1048576 ∧ List.length C ≤ 1048576) (hC : ∀ (z : Capture), z ∈ C → wP z ≤ 1048576) (ih
 : ∀ (z : Syntax), z ∈ Syntax.items t → ∀ (C : List Capture) (q : Int), 0 ≤ q ∧ q ≤ 2000 ∧ wY z ≤ 1048576 ∧ List.length C ≤ 1048576 → (∀ (z : Capture), z ∈ C → wP z ≤ 1048576) →
 P_c_iBuild z C q)  : LoopSem Try.prog (loopAt Try.f54 0) (Ic_iBuild_sLa t C q) (Yc_iBuild_sLa t C q) := by
  refine LoopSem.ofHead wide fun k h => ⟨_, _, run_c_iBuild_sLa t C q k, ?_⟩
  try delta a1__iBuild_sLa a4__iBuild_sLa a11__iBuild_sLa a2__iBuild_sLa a3__iBuild_sLa a5__iBuild_sLa a6__iBuild_sLa a7__iBuild_sLa a8__iBuild_sLa a9__iBuild_sLa a10__iBuild_sLa
  obtain ⟨i, m, O⟩ := k
  simp only at *
  have H := h.2.2.1
  have p1 : i < t.items.length → (t.items.length ≤ i + 1 ∨ isDots (t.items.getD (i + 1) default) = false) → (bli (t.items.getD i default) C m).2.1 = true → blis (t.items.drop i) C m O = blis (t.items.drop (i + 1)) C (bli (t.items.getD i default) C m).2.2 (O ++ [(bli (t.items.getD i default) C m).1]) := fun a b c => by rw [blis_plain a b, if_pos c]
  have p2 : i < t.items.length → (t.items.length ≤ i + 1 ∨ isDots (t.items.getD (i + 1) default) = false) → (bli (t.items.getD i default) C m).2.1 = false → blis (t.items.drop i) C m O = (O, false, (bli (t.items.getD i default) C m).2.2) := fun a b c => by rw [blis_plain a b, if_neg (by rw [c]; decide)]
  have d1 : i + 1 < t.items.length → isDots (t.items.getD (i + 1) default) = true → (iR C (t.items.getD i default) m O).2.1 = true → blis (t.items.drop i) C m O = blis (t.items.drop (i + 1 + 1)) C (iR C (t.items.getD i default) m O).2.2 (iR C (t.items.getD i default) m O).1 := fun a b c => by rw [blis_dots a b, if_pos c]
  have d3 : i + 1 < t.items.length → isDots (t.items.getD (i + 1) default) = true → (rpX C (t.items.getD i default)).length = 0 → blis (t.items.drop i) C m O = (O, false, m) := fun a b c => by
    have e : iR C (t.items.getD i default) m O = (O, false, m) := by unfold iR rqB; rw [c]; rfl
    rw [blis_dots a b, e]; rfl
  have e1 : t.items.length ≤ i → blis (t.items.drop i) C m O = (O, true, m) := fun a => blis_end a
  have g4 := bli_bd (t.items.getD i default) C m
  have g6 : 0 ≤ m → (iR C (t.items.getD i default) m O).2.1 = true → 0 ≤ (iR C (t.items.getD i default) m O).2.2 ∧ ((iR C (t.items.getD i default) m O).1.length : Int) + (iR C (t.items.getD i default) m O).2.2 ≤ O.length + m := fun a b => iR_bd C _ m O a b
  have g8 := @size_item t i
  have g9 := rpi_len C (t.items.getD i default) []
  have g10 := sizeY_le' (t.items.getD i default)
  have g11 := fun h : 0 < (rpX C (t.items.getD i default)).length => rpX_at h
  have g12 : iI C (t.items.getD i default) 0 m O = (O, true, m) := rfl
  have g13 := fun h : 0 < (rpX C (t.items.getD i default)).length => rqN_le hC h
  with_reducible repeat' (first | apply And.intro | exact flatI | exact flatS | exact rowLens | exact ih | (intro; skip) | apply obsN | apply obsC | apply obA | apply obM | apply obB | apply svA | apply tupA | apply lcA | apply lcS | apply svC | apply liC | apply lbC | apply lsC | apply vIc | apply vBc | apply vSc | apply vLc | apply mapC | apply Hc_iBuild_sLa | apply Ec_iBuild_sLa | apply Hc_iBuild_sLb | apply Ec_iBuild_sLb | apply Hc_iBuild_sLc | apply Ec_iBuild_sLc | apply Hc_iBuild_sLd | apply Ec_iBuild_sLd | apply Sc_iBuild_sLb | apply Sc_iBuild_sLc | apply Sc_iBuild_sLd | apply EW0c_iBuild_sLd | apply EW0c_iBuild_sLc | apply EW1c_iBuild_sLc | apply EW1c_iBuild_sLb | apply EW0c_iBuild_sLa | apply EW1c_iBuild_sLa | apply c_iFind | apply c_iMeaY | apply c_iCopyY | apply c_yIInts | apply c_iDots | apply c_iRep | apply ih)
  all_goals (try simp only [std] at *)
  all_goals (try (first | with_reducible apply c_iFind | with_reducible apply c_iMeaY | with_reducible apply c_iCopyY | with_reducible apply c_yIInts | with_reducible apply c_iDots | with_reducible apply c_iRep | with_reducible apply ih | (simp only [← List.map_append]; first | with_reducible apply c_iFind | with_reducible apply c_iMeaY | with_reducible apply c_iCopyY | with_reducible apply c_yIInts | with_reducible apply c_iDots | with_reducible apply c_iRep | with_reducible apply ih)))
  all_goals (try (first | with_reducible rfl | omega | assumption | (refine (decide_eq_true ?_).symm; assumption) | (refine (decide_eq_false ?_).symm; assumption) | (refine rowGet ?_; (first | omega | (simp only [std]; omega) | grind)) | (refine getC ?_ rfl; (first | omega | (simp only [std]; omega) | grind)) | (show (_ : St) = _; rfl)))
  all_goals (try simp only [Bool.not_eq_true', Bool.not_eq_false', decide_eq_false_iff_not, decide_eq_true_eq, Decidable.not_not] at *)
  all_goals (try simp only [rpX, rqN, dfI] at *)
  all_goals (try first | exact getD_mem' (by omega) | exact hC _ (by assumption) | exact rowSnoc (C := syntaxC) _ _ | exact (rpX_at (by show 0 < (rpi C (t.items.getD i default) []).length; omega)).1 | (show rqA C [] _ = true; rfl) | (show (_ : Bool) = true; exact (rfl : (iI C (t.items.getD i default) 0 m O).2.1 = true)) | exact (rfl : m = (iI C (t.items.getD i default) 0 m O).2.2) | exact (rfl : O = (iI C (t.items.getD i default) 0 m O).1) | (have := g8 (by omega); simp only [List.length_nil] at *; omega))
  all_goals (try first | (rw [H, p1 (by omega) (by first | exact Or.inl (by omega) | exact Or.inr (by assumption)) (by assumption)]) | (rw [H, p2 (by omega) (by first | exact Or.inl (by omega) | exact Or.inr (by assumption)) (by assumption)]) | (rw [H, d1 (by omega) (by assumption) (by assumption)]) | (rw [H, d3 (by omega) (by assumption) (by omega)]) | (rw [H, e1 (by omega)]))
  all_goals (try first | (have := g4 (by omega) (by assumption); first | omega | (simp only [List.length_singleton]; omega)) | (have := g6 (by omega) (by assumption); omega))
abbrev a1_c_iBuild_s (t : Syntax) (C : List Capture) := (List.getD C (Int.toNat (if Syntax.kind t = 1 then fnd C t else (-1 : Int))) default)
abbrev a2_c_iBuild_s (t : Syntax) (C : List Capture) (q : Int) := [SV.agg [vI (Syntax.kind (Prod.fst (bli t C q))), vI (Syntax.number (Prod.fst (bli t C q))), vS (Syntax.text
 (Prod.fst (bli t C q))), AC.ref 1, AC.ref 2], lb (Prod.fst (Prod.snd (bli t C q)))]
abbrev a3_c_iBuild_s (t : Syntax) (C : List Capture) (q : Int) := [Ob.box [vI (Prod.snd (Prod.snd (bli t C q)))], Ob.arr true 1 (List.map intC (Syntax.scopes (Prod.fst (bli t C
 q)))), Ob.arr true 5 (List.map syntaxC (Syntax.items (Prod.fst (bli t C q))))]
abbrev a4_c_iBuild_s (t : Syntax) (C : List Capture) := ((0 ≤ if Syntax.kind t = 1 then fnd C t else (-1 : Int)) ∧ (List.map captureC C)[Int.toNat (if Syntax.kind t = 1 then fnd C
 t else (-1 : Int))]? = some (captureF (a1_c_iBuild_s t C)))
abbrev a5_c_iBuild_s (t : Syntax) (C : List Capture) (q : Int) := (Prod.snd (blis (Syntax.items t) C (q - 1) []))
abbrev a6_c_iBuild_s (t : Syntax) (C : List Capture) := (meaY (Capture.form (a1_c_iBuild_s t C)) 1 0)
theorem run_c_iBuild_s (t : Syntax) (C : List Capture) (q : Int) : aexec Try.prog (Option.getD (Func.body Try.f54) Code.skip) (entry [Ob.box [vI q]] [SV.one (AC.ptr 0 0), syntaxA
 t, ll (List.map captureC C)] 206) [Orc.call [Mode.rd, Mode.rd] [] (AV.sv (li (if Syntax.kind t = 1 then fnd C t else (-1 : Int)))), Orc.br [Orc.cells (captureF (a1_c_iBuild_s t
 C)), Orc.br [Orc.ghost (Ghost.nilbox 2 3 true 1), Orc.ghost (Ghost.nilbox 2 4 true 5), Orc.fin [3, 4]] [Orc.cells (captureF (a1_c_iBuild_s t C)), Orc.call [Mode.rd, Mode.rd,
 Mode.ptr] [Ob.box [vI (Prod.snd (a6_c_iBuild_s t C))]] (AV.sv (lb (Prod.fst (a6_c_iBuild_s t C)))), Orc.br [Orc.ghost (Ghost.nilbox 2 3 true 1), Orc.ghost (Ghost.nilbox 2 4 true
 5), Orc.fin [4, 5]] [Orc.draw [(8, [0])], Orc.draw [(11, [2])], Orc.cells (captureF (a1_c_iBuild_s t C)), Orc.call [Mode.rd] (syntaxO (Capture.form (a1_c_iBuild_s t C))) (AV.sv
 (syntaxR (Capture.form (a1_c_iBuild_s t C)) 0)), Orc.fin [4, 5]]]] [Orc.br [Orc.ghost (Ghost.nilbox 2 3 true 1), Orc.ghost (Ghost.nilbox 2 4 true 5), Orc.fin [3, 4]] [Orc.draw
 [(11, [11])], Orc.call [Mode.rd] [Ob.arr true 1 (List.map intC (Syntax.scopes t))] (AV.sv (SV.one (AC.ref 0))), Orc.ghost (Ghost.nilbox 11 4 true 5), Orc.ghost (Ghost.sel [0, 1,
 2, 11, 3, 12] [0, 2, 4, 6, 10, 11]), Orc.loop (List.length (Syntax.items t) - 0) (Lc_iBuild_sLa t C q (0, q - 1, [])) (Ic_iBuild_sLa t C q) [(Prod.fst (a5_c_iBuild_s t C q) =
 true, AEx.exit 0, W0c_iBuild_sLa t C q (vI (Prod.snd (a5_c_iBuild_s t C q))) (Ob.arr true 5 (List.map syntaxC (Prod.fst (blis (Syntax.items t) C (q - 1) [])))), [Orc.fin [3, 4]]),
 (Prod.fst (a5_c_iBuild_s t C q) = false, AEx.ret, W1c_iBuild_sLa t C q (vI (Prod.snd (a5_c_iBuild_s t C q))) (Ob.box [vI 0, vI 0, vS (mkS []), AC.val (Cell.lit (Value.slice none 0
 0)), AC.val (Cell.lit (Value.slice none 0 0))]) (lb false), [Orc.ghost (Ghost.nilbox 1 3 true 1), Orc.ghost (Ghost.nilbox 1 4 true 5), Orc.fin [2, 3]])]]]] (finK Try.prog
 [ResultVar.cell 6 48, ResultVar.tmp 7] (Ob.box [vI (Prod.snd (Prod.snd (bli t C q)))] :: syntaxO (Prod.fst (bli t C q))) (AV.tup [syntaxR (Prod.fst (bli t C q)) 1, lb (Prod.fst
 (Prod.snd (bli t C q)))])) = (P_c_iFind C t ∧ (decide (0 ≤ if Syntax.kind t = 1 then fnd C t else (-1 : Int)) = true → (a4_c_iBuild_s t C) ∧ (decide (Capture.depth (a1_c_iBuild_s
 t C) ≠ 0) = true → ObsEq [Ob.box [vI q], Ob.arr true 1 [], Ob.arr true 5 []] (a3_c_iBuild_s t C q) ∧ AV.tup [SV.agg [vI 0, vI 0, vS (ByteArray.mk #[]), AC.ref 1, AC.ref 2], lb
 false] = AV.tup (a2_c_iBuild_s t C q)) ∧ (decide (Capture.depth (a1_c_iBuild_s t C) ≠ 0) = false → (a4_c_iBuild_s t C) ∧ P_c_iMeaY (Capture.form (a1_c_iBuild_s t C)) 1 0 ∧
 ((!Prod.fst (a6_c_iBuild_s t C)) = true → ObsEq [Ob.box [vI q], Ob.arr true 1 [], Ob.arr true 5 []] (a3_c_iBuild_s t C q) ∧ AV.tup [SV.agg [vI 0, vI 0, vS (ByteArray.mk #[]),
 AC.ref 1, AC.ref 2], lb false] = AV.tup (a2_c_iBuild_s t C q)) ∧ ((!Prod.fst (a6_c_iBuild_s t C)) = false → rng IntKind.i64 (q - Prod.snd (a6_c_iBuild_s t C)) ∧ (a4_c_iBuild_s t
 C) ∧ P_c_iCopyY (Capture.form (a1_c_iBuild_s t C)) ∧ ObsEq [Ob.box [vI (q - Prod.snd (a6_c_iBuild_s t C))], Ob.arr true 1 (List.map intC (Syntax.scopes (Capture.form
 (a1_c_iBuild_s t C)))), Ob.arr true 5 (List.map syntaxC (Syntax.items (Capture.form (a1_c_iBuild_s t C))))] (a3_c_iBuild_s t C q) ∧ AV.tup [SV.agg [vI (Syntax.kind (Capture.form
 (a1_c_iBuild_s t C))), vI (Syntax.number (Capture.form (a1_c_iBuild_s t C))), vS (Syntax.text (Capture.form (a1_c_iBuild_s t C))), AC.ref 1, AC.ref 2], lb (decide (0 ≤ q -
 Prod.snd (a6_c_iBuild_s t C)))] = AV.tup (a2_c_iBuild_s t C q)))) ∧ (decide (0 ≤ if Syntax.kind t = 1 then fnd C t else (-1 : Int)) = false → rng IntKind.i64 (q - 1) ∧ (decide (q
 - (1 : Int) < 0) = true → ObsEq [Ob.box [vI (q - 1)], Ob.arr true 1 [], Ob.arr true 5 []] (a3_c_iBuild_s t C q) ∧ AV.tup [SV.agg [vI 0, vI 0, vS (ByteArray.mk #[]), AC.ref 1,
 AC.ref 2], lb false] = AV.tup (a2_c_iBuild_s t C q)) ∧ (decide (q - (1 : Int) < 0) = false → P_c_yIInts (Syntax.scopes t) ∧ Tc_iBuild_sLa t C q (li 0) (vI (q - 1)) (Ob.arr true 5
 []) = Lc_iBuild_sLa t C q (0, q - 1, []) ∧ Ic_iBuild_sLa t C q (List.length (Syntax.items t) - 0) (Lc_iBuild_sLa t C q (0, q - 1, [])) ∧ LoopSem Try.prog (loopAt Try.f54 0)
 (Ic_iBuild_sLa t C q) (Yc_iBuild_sLa t C q) ∧ (Prod.fst (a5_c_iBuild_s t C q) = true → ObsEq [Ob.box [vI (Prod.snd (a5_c_iBuild_s t C q))], Ob.arr true 1 (List.map intC
 (Syntax.scopes t)), Ob.arr true 5 (List.map syntaxC (Prod.fst (blis (Syntax.items t) C (q - 1) [])))] (a3_c_iBuild_s t C q) ∧ AV.tup [SV.agg [vI (Syntax.kind t), vI (Syntax.number
 t), vS (Syntax.text t), AC.ref 1, AC.ref 2], lb true] = AV.tup (a2_c_iBuild_s t C q)) ∧ (Prod.fst (a5_c_iBuild_s t C q) = false → ObsEq [Ob.box [vI (Prod.snd (a5_c_iBuild_s t C
 q))], Ob.arr true 1 [], Ob.arr true 5 []] (a3_c_iBuild_s t C q) ∧ AV.tup [SV.agg [vI 0, vI 0, vS (mkS []), AC.ref 1, AC.ref 2], lb false] = AV.tup (a2_c_iBuild_s t C q)) ∧ True)))
 := by kernel_rfl
theorem c_iBuild_s (t : Syntax) (C : List Capture) (q : Int) (h : 0 ≤ q ∧ q ≤ 2000 ∧ wY t ≤ 1048576 ∧ C.length ≤ 1048576) (hC : ∀ z ∈ C, wP z ≤ 1048576) (ih : ∀ z ∈ t.items, ∀ (C :
 List Capture) (q : Int) (h : 0 ≤ q ∧ q ≤ 2000 ∧ wY z ≤ 1048576 ∧ C.length ≤ 1048576) (hC : ∀ z ∈ C, wP z ≤ 1048576), P_c_iBuild z C q)  : P_c_iBuild t C q := by
  refine CallOK.ofRun wide (run_c_iBuild_s t C q) Try.call54 Try.func54 rfl rfl rfl ?_
  try delta a1_c_iBuild_s a2_c_iBuild_s a3_c_iBuild_s a4_c_iBuild_s a5_c_iBuild_s a6_c_iBuild_s
  have g2 := fnd_lt C t
  have g4 := wY_eq t
  with_reducible repeat' (first | apply And.intro | exact flatI | exact flatS | exact rowLens | exact ih | (intro; skip) | apply obsN | apply obsC | apply obA | apply obM | apply obB | apply svA | apply tupA | apply lcA | apply lcS | apply svC | apply liC | apply lbC | apply lsC | apply vIc | apply vBc | apply vSc | apply vLc | apply mapC | apply Hc_iBuild_sLa | apply Ec_iBuild_sLa | apply Sc_iBuild_sLa | apply Hc_iBuild_sLb | apply Ec_iBuild_sLb | apply Sc_iBuild_sLb | apply Hc_iBuild_sLc | apply Ec_iBuild_sLc | apply Sc_iBuild_sLc | apply Hc_iBuild_sLd | apply Ec_iBuild_sLd | apply Sc_iBuild_sLd | apply EW0c_iBuild_sLd | apply EW0c_iBuild_sLc | apply EW1c_iBuild_sLc | apply EW1c_iBuild_sLb | apply EW0c_iBuild_sLa | apply EW1c_iBuild_sLa | apply c_iFind | apply c_iMeaY | apply c_iCopyY | apply c_yIInts | apply c_iDots | apply c_iRep)
  all_goals (try simp only [std] at *)
  all_goals (try (first | with_reducible apply c_iFind | with_reducible apply c_iMeaY | with_reducible apply c_iCopyY | with_reducible apply c_yIInts | with_reducible apply c_iDots | with_reducible apply c_iRep | with_reducible apply ih | (simp only [← List.map_append]; first | with_reducible apply c_iFind | with_reducible apply c_iMeaY | with_reducible apply c_iCopyY | with_reducible apply c_yIInts | with_reducible apply c_iDots | with_reducible apply c_iRep | with_reducible apply ih)))
  all_goals (try (first | with_reducible rfl | omega | assumption | (refine (decide_eq_true ?_).symm; assumption) | (refine (decide_eq_false ?_).symm; assumption) | (refine rowGet ?_; (first | omega | (simp only [std]; omega) | grind)) | (refine getC ?_ rfl; (first | omega | (simp only [std]; omega) | grind)) | (show (_ : St) = _; rfl)))
  all_goals (try simp only [Bool.not_eq_true', Bool.not_eq_false', decide_eq_false_iff_not, decide_eq_true_eq, Decidable.not_not] at *)
  all_goals (try (have hk := ite_fnd (by assumption : 0 ≤ if t.kind = 1 then fnd C t else -1); simp only [if_pos hk.1] at *))
  all_goals (try first | exact hC _ (by assumption) | exact capOf_w hC (by omega) | (have := meaY_bd _ (by assumption : (meaY (C.getD (fnd C t).toNat default).form 1 0).1 = true); omega) | (rw [bli_b1 (by omega) (by omega) (by assumption)]) | (rw [bli_b2 (by omega) (by omega) (by assumption) (by assumption)]) | (rw [bli_b3 (by omega) (by omega) (by assumption) (by assumption)]) | (rw [bli_b4 (by omega) (by omega)]) | (rw [bli_b5 (by omega) (by omega) (by assumption)]) | (rw [bli_b6 (by omega) (by omega) (by assumption)]))
  all_goals (try first | rfl | (dsimp only; omega) | (simp only [List.length_nil]; omega))
theorem c_iBuild (t : Syntax) : ∀ (C : List Capture) (q : Int) (h : 0 ≤ q ∧ q ≤ 2000 ∧ wY t ≤ 1048576 ∧ C.length ≤ 1048576) (hC : ∀ z ∈ C, wP z ≤ 1048576), P_c_iBuild t C q := Syntax.ind (P := fun t => ∀ (C : List Capture) (q : Int) (h : 0 ≤ q ∧ q ≤ 2000 ∧ wY t ≤ 1048576 ∧ C.length ≤ 1048576) (hC : ∀ z ∈ C, wP z ≤ 1048576), P_c_iBuild t C q) (fun t ih C q h hC => c_iBuild_s t C q h hC ih) t
abbrev P_c_sIns (t : Syntax) (C : List Capture) : Prop := CallOK Try.prog 17 [] [syntaxA t, ll (C.map captureC)] (syntaxO (insY t C)) (.tup [syntaxR (insY t C) 0, lb (insB t C)])
abbrev a1_c_sIns (t : Syntax) (C : List Capture) := [SV.agg [vI (Syntax.kind (insY t C)), vI (Syntax.number (insY t C)), vS (Syntax.text (insY t C)), AC.ref 0, AC.ref 1], lb (insB
 t C)]
abbrev a2_c_sIns (t : Syntax) (C : List Capture) := [Ob.arr true 1 (List.map intC (Syntax.scopes (insY t C))), Ob.arr true 5 (List.map syntaxC (Syntax.items (insY t C)))]
abbrev a3_c_sIns  := [SV.agg [vI 0, vI 0, vS (ByteArray.mk #[]), AC.ref 0, AC.ref 1], lb false]
theorem run_c_sIns (t : Syntax) (C : List Capture) : aexec Try.prog (Option.getD (Func.body Try.f17) Code.skip) (entry [] [syntaxA t, ll (List.map captureC C)] 33) [Orc.call
 [Mode.rd] [] (AV.sv (lb (isSyn t))), Orc.br [Orc.bool true, Orc.ghost (Ghost.nilbox 1 3 true 1), Orc.ghost (Ghost.nilbox 1 4 true 5), Orc.fin [2, 3]] [Orc.call [Mode.rd] [] (AV.sv
 (lb (dotf t))), Orc.br [Orc.ghost (Ghost.nilbox 1 3 true 1), Orc.ghost (Ghost.nilbox 1 4 true 5), Orc.fin [2, 3]] [Orc.call [Mode.rd, Mode.rd, Mode.ptr] (Ob.box [vI (Prod.snd
 (Prod.snd (bld t C 2000)))] :: syntaxO (Prod.fst (bld t C 2000))) (AV.tup [syntaxR (Prod.fst (bld t C 2000)) 1, lb (Prod.fst (Prod.snd (bld t C 2000)))]), Orc.br [Orc.bool true,
 Orc.ghost (Ghost.nilbox 1 3 true 1), Orc.ghost (Ghost.nilbox 1 4 true 5), Orc.fin [7, 8]] [Orc.call [Mode.rd] [] (AV.sv (lb (isSyn (Prod.fst (bld t C 2000))))), Orc.br [Orc.ghost
 (Ghost.nilbox 1 3 true 1), Orc.ghost (Ghost.nilbox 1 4 true 5), Orc.fin [7, 8]] [Orc.fin [4, 5]]]]]] (finK Try.prog [ResultVar.cell 4 48, ResultVar.tmp 5] (syntaxO (insY t C))
 (AV.tup [syntaxR (insY t C) 0, lb (insB t C)])) = (P_c_sIsSyntax t ∧ ((!isSyn t) = true → true = true ∧ ObsEq [Ob.arr true 1 [], Ob.arr true 5 []] (a2_c_sIns t C) ∧ AV.tup
 a3_c_sIns = AV.tup (a1_c_sIns t C)) ∧ ((!isSyn t) = false → P_c_sPlaced t ∧ ((!dotf t) = true → ObsEq [Ob.arr true 1 [], Ob.arr true 5 []] (a2_c_sIns t C) ∧ AV.tup a3_c_sIns =
 AV.tup (a1_c_sIns t C)) ∧ ((!dotf t) = false → P_c_sBuild t C 2000 ∧ ((!Prod.fst (Prod.snd (bld t C 2000))) = true → true = true ∧ ObsEq [Ob.arr true 1 [], Ob.arr true 5 []]
 (a2_c_sIns t C) ∧ AV.tup a3_c_sIns = AV.tup (a1_c_sIns t C)) ∧ ((!Prod.fst (Prod.snd (bld t C 2000))) = false → P_c_sIsSyntax (Prod.fst (bld t C 2000)) ∧ ((!isSyn (Prod.fst (bld t
 C 2000))) = true → ObsEq [Ob.arr true 1 [], Ob.arr true 5 []] (a2_c_sIns t C) ∧ AV.tup a3_c_sIns = AV.tup (a1_c_sIns t C)) ∧ ((!isSyn (Prod.fst (bld t C 2000))) = false → ObsEq
 [Ob.arr true 1 (List.map intC (Syntax.scopes (Prod.fst (bld t C 2000)))), Ob.arr true 5 (List.map syntaxC (Syntax.items (Prod.fst (bld t C 2000))))] (a2_c_sIns t C) ∧ AV.tup
 [SV.agg [vI (Syntax.kind (Prod.fst (bld t C 2000))), vI (Syntax.number (Prod.fst (bld t C 2000))), vS (Syntax.text (Prod.fst (bld t C 2000))), AC.ref 0, AC.ref 1], lb true] =
 AV.tup (a1_c_sIns t C)))))) := by kernel_rfl
theorem c_sIns (t : Syntax) (C : List Capture) (h : wY t ≤ 1048576 ∧ C.length ≤ 1048576) (hC : ∀ z ∈ C, wP z ≤ 1048576)  : P_c_sIns t C := by
  refine CallOK.ofRun wide (run_c_sIns t C) Try.call17 Try.func17 rfl rfl rfl ?_
  try delta a1_c_sIns a2_c_sIns a3_c_sIns
  have g1 : insB t C = (isSyn t && dotf t && (bld t C 2000).2.1 && isSyn (bld t C 2000).1) := rfl
  have g2 : insB t C = true → insY t C = (bld t C 2000).1 := fun h => if_pos h
  have g3 : insB t C = false → insY t C = zY := fun h => by unfold insY; rw [h]; rfl
  have g4 : zY.kind = 0 ∧ zY.number = 0 ∧ zY.text = mkS [] ∧ zY.scopes = [] ∧ zY.items = [] := ⟨rfl, rfl, rfl, rfl, rfl⟩
  with_reducible repeat' (first | apply And.intro | exact flatI | exact flatS | exact rowLens | (intro; skip) | apply obsN | apply obsC | apply obA | apply obM | apply obB | apply svA | apply tupA | apply lcA | apply lcS | apply svC | apply liC | apply lbC | apply lsC | apply vIc | apply vBc | apply vSc | apply vLc | apply mapC | apply c_sIsSyntax | apply c_sPlaced | apply c_sBuild)
  all_goals (try simp only [std] at *)
  all_goals (try (first | with_reducible apply c_sIsSyntax | with_reducible apply c_sPlaced | with_reducible apply c_sBuild | (simp only [← List.map_append]; first | with_reducible apply c_sIsSyntax | with_reducible apply c_sPlaced | with_reducible apply c_sBuild)))
  all_goals (try (first | with_reducible rfl | omega | assumption | (refine (decide_eq_true ?_).symm; assumption) | (refine (decide_eq_false ?_).symm; assumption) | (refine rowGet ?_; (first | omega | (simp only [std]; omega) | grind)) | (refine getC ?_ rfl; (first | omega | (simp only [std]; omega) | grind)) | (show (_ : St) = _; rfl) | grind [snocI, snocS, rowSnoc]))
abbrev P_c_iIns (t : Syntax) (C : List Capture) : Prop := CallOK Try.prog 20 [] [syntaxA t, ll (C.map captureC)] (syntaxO (insY t C)) (.tup [syntaxR (insY t C) 0, lb (insB t C)])
abbrev a1_c_iIns (t : Syntax) (C : List Capture) := [SV.agg [vI (Syntax.kind (insY t C)), vI (Syntax.number (insY t C)), vS (Syntax.text (insY t C)), AC.ref 0, AC.ref 1], lb (insB
 t C)]
abbrev a2_c_iIns (t : Syntax) (C : List Capture) := [Ob.arr true 1 (List.map intC (Syntax.scopes (insY t C))), Ob.arr true 5 (List.map syntaxC (Syntax.items (insY t C)))]
abbrev a3_c_iIns  := [SV.agg [vI 0, vI 0, vS (ByteArray.mk #[]), AC.ref 0, AC.ref 1], lb false]
theorem run_c_iIns (t : Syntax) (C : List Capture) : aexec Try.prog (Option.getD (Func.body Try.f20) Code.skip) (entry [] [syntaxA t, ll (List.map captureC C)] 34) [Orc.call
 [Mode.rd] [] (AV.sv (lb (isSyn t))), Orc.br [Orc.bool true, Orc.ghost (Ghost.nilbox 1 3 true 1), Orc.ghost (Ghost.nilbox 1 4 true 5), Orc.fin [2, 3]] [Orc.call [Mode.rd] [] (AV.sv
 (lb (dotf t))), Orc.br [Orc.ghost (Ghost.nilbox 1 3 true 1), Orc.ghost (Ghost.nilbox 1 4 true 5), Orc.fin [2, 3]] [Orc.call [Mode.ptr, Mode.rd, Mode.rd] (Ob.box [vI (Prod.snd
 (Prod.snd (bli t C 2000)))] :: syntaxO (Prod.fst (bli t C 2000))) (AV.tup [syntaxR (Prod.fst (bli t C 2000)) 1, lb (Prod.fst (Prod.snd (bli t C 2000)))]), Orc.br [Orc.bool true,
 Orc.ghost (Ghost.nilbox 1 3 true 1), Orc.ghost (Ghost.nilbox 1 4 true 5), Orc.fin [7, 8]] [Orc.call [Mode.rd] [] (AV.sv (lb (isSyn (Prod.fst (bli t C 2000))))), Orc.br [Orc.ghost
 (Ghost.nilbox 1 3 true 1), Orc.ghost (Ghost.nilbox 1 4 true 5), Orc.fin [7, 8]] [Orc.fin [4, 5]]]]]] (finK Try.prog [ResultVar.cell 4 48, ResultVar.tmp 5] (syntaxO (insY t C))
 (AV.tup [syntaxR (insY t C) 0, lb (insB t C)])) = (P_c_iIsSyntax t ∧ ((!isSyn t) = true → true = true ∧ ObsEq [Ob.arr true 1 [], Ob.arr true 5 []] (a2_c_iIns t C) ∧ AV.tup
 a3_c_iIns = AV.tup (a1_c_iIns t C)) ∧ ((!isSyn t) = false → P_c_iDotsFit t ∧ ((!dotf t) = true → ObsEq [Ob.arr true 1 [], Ob.arr true 5 []] (a2_c_iIns t C) ∧ AV.tup a3_c_iIns =
 AV.tup (a1_c_iIns t C)) ∧ ((!dotf t) = false → P_c_iBuild t C 2000 ∧ ((!Prod.fst (Prod.snd (bli t C 2000))) = true → true = true ∧ ObsEq [Ob.arr true 1 [], Ob.arr true 5 []]
 (a2_c_iIns t C) ∧ AV.tup a3_c_iIns = AV.tup (a1_c_iIns t C)) ∧ ((!Prod.fst (Prod.snd (bli t C 2000))) = false → P_c_iIsSyntax (Prod.fst (bli t C 2000)) ∧ ((!isSyn (Prod.fst (bli t
 C 2000))) = true → ObsEq [Ob.arr true 1 [], Ob.arr true 5 []] (a2_c_iIns t C) ∧ AV.tup a3_c_iIns = AV.tup (a1_c_iIns t C)) ∧ ((!isSyn (Prod.fst (bli t C 2000))) = false → ObsEq
 [Ob.arr true 1 (List.map intC (Syntax.scopes (Prod.fst (bli t C 2000)))), Ob.arr true 5 (List.map syntaxC (Syntax.items (Prod.fst (bli t C 2000))))] (a2_c_iIns t C) ∧ AV.tup
 [SV.agg [vI (Syntax.kind (Prod.fst (bli t C 2000))), vI (Syntax.number (Prod.fst (bli t C 2000))), vS (Syntax.text (Prod.fst (bli t C 2000))), AC.ref 0, AC.ref 1], lb true] =
 AV.tup (a1_c_iIns t C)))))) := by kernel_rfl
theorem c_iIns (t : Syntax) (C : List Capture) (h : wY t ≤ 1048576 ∧ C.length ≤ 1048576) (hC : ∀ z ∈ C, wP z ≤ 1048576)  : P_c_iIns t C := by
  refine CallOK.ofRun wide (run_c_iIns t C) Try.call20 Try.func20 rfl rfl rfl ?_
  try delta a1_c_iIns a2_c_iIns a3_c_iIns
  have g1 := @ins_same t C
  have g2 : insB t C = true → insY t C = (bld t C 2000).1 := fun h => if_pos h
  have g3 : insB t C = false → insY t C = zY := fun h => by unfold insY; rw [h]; rfl
  have g4 : zY.kind = 0 ∧ zY.number = 0 ∧ zY.text = mkS [] ∧ zY.scopes = [] ∧ zY.items = [] := ⟨rfl, rfl, rfl, rfl, rfl⟩
  have g5 : insB t C = (isSyn t && dotf t && (bld t C 2000).2.1 && isSyn (bld t C 2000).1) := rfl
  with_reducible repeat' (first | apply And.intro | exact flatI | exact flatS | exact rowLens | (intro; skip) | apply obsN | apply obsC | apply obA | apply obM | apply obB | apply svA | apply tupA | apply lcA | apply lcS | apply svC | apply liC | apply lbC | apply lsC | apply vIc | apply vBc | apply vSc | apply vLc | apply mapC | apply c_iIsSyntax | apply c_iDotsFit | apply c_iBuild)
  all_goals (try simp only [std] at *)
  all_goals (try (first | with_reducible apply c_iIsSyntax | with_reducible apply c_iDotsFit | with_reducible apply c_iBuild | (simp only [← List.map_append]; first | with_reducible apply c_iIsSyntax | with_reducible apply c_iDotsFit | with_reducible apply c_iBuild)))
  all_goals (try (first | with_reducible rfl | omega | assumption | (refine (decide_eq_true ?_).symm; assumption) | (refine (decide_eq_false ?_).symm; assumption) | (refine rowGet ?_; (first | omega | (simp only [std]; omega) | grind)) | (refine getC ?_ rfl; (first | omega | (simp only [std]; omega) | grind)) | (show (_ : St) = _; rfl) | grind [snocI, snocS, rowSnoc]))
end Go.Proofs.Ytegbadciefljcaa
end
section
namespace Go.Proofs.Ytegbadciefljcaa
open Go Go.Proofs.Ytegbadciefljcaa.Ab
set_option linter.unusedVariables false
set_option linter.unusedSimpArgs false
set_option maxHeartbeats 4000000
abbrev P_c_markIntS (L : List Int) (n : Int) : Prop := CallOK Try.prog 58 [.arr true 1 (L.map intC)] [.one (.ref 0), li n] [.arr true 1 ((seqM mkI cOne L n).map intC)] (.sv (li (n + L.length)))
def Tc_markIntSLa (L : List Int) (n : Int) (x0 : SV) (x1 : SV) (x2 : Ob) : St := St.mk (regsOf 19 [(0, AV.sv (SV.one (AC.ref 0))), (1, AV.sv x1), (5, AV.sv x0)]) [x2] 1 
def Lc_markIntSLa (L : List Int) (n : Int) (k : Nat) : St := Tc_markIntSLa L n (li (↑k : Int)) (li (n + (↑k : Int))) (Ob.arr true 1 (List.map intC (mkTo mkI cOne L n k))) 
def Ic_markIntSLa (L : List Int) (n : Int) : Nat → St → Prop := Head (Lc_markIntSLa L n) (fun k => k ≤ List.length L ∧ List.length L ≤ 9223372036854775807) fun k => List.length L -
 k 
def W0c_markIntSLa (L : List Int) (n : Int) (x0 : SV) (x1 : Ob) : St := St.mk (regsOf 19 [(1, AV.sv x0)]) [x1] 1 
def Yc_markIntSLa (L : List Int) (n : Int) : List (Prop × AEx × St) := [(True, AEx.exit 0, W0c_markIntSLa L n (li (n + (↑(List.length L) : Int))) (Ob.arr true 1 (List.map intC
 (seqM mkI cOne L n))))]
theorem Hc_markIntSLa {L : List Int} {n : Int} {k : Nat} {m : Nat} (h : (fun k => k ≤ List.length L ∧ List.length L ≤ 9223372036854775807) k) (hm : (fun k => List.length L - k) k =
 m) : Ic_markIntSLa L n m (Lc_markIntSLa L n k) := hm ▸ Head.mk h
theorem Ec_markIntSLa {L : List Int} {n : Int} {k : Nat} {x0 : SV} {x1 : SV} {x2 : Ob} (h0 : x0 = (li (↑k : Int))) (h1 : x1 = (li (n + (↑k : Int)))) (h2 : x2 = (Ob.arr true 1
 (List.map intC (mkTo mkI cOne L n k)))) : Tc_markIntSLa L n x0 x1 x2 = Lc_markIntSLa L n k := by
  rw [h0, h1, h2]
  rfl
theorem EW0c_markIntSLa {L : List Int} {n : Int} {x0 y0 : SV} {x1 y1 : Ob} (h0 : x0 = y0) (h1 : x1 = y1) : W0c_markIntSLa L n x0 x1 = W0c_markIntSLa L n y0 y1 := by rw [h0, h1]
theorem run_c_markIntSLa (L : List Int) (n : Int) (k : Nat) : aexec Try.prog (loopAt Try.f58 0) (Lc_markIntSLa L n k) [Orc.br [Orc.cells (intC (List.getD L (Int.toNat (↑k : Int))
 default)), Orc.ghost (Ghost.sel [0] [0, 1, 5]), Orc.goto (List.length L - (k + 1)) (Lc_markIntSLa L n (k + 1))] [Orc.ghost (Ghost.sel [0] [1]), Orc.out 0]] (loopK (Ic_markIntSLa L
 n) (Yc_markIntSLa L n) (List.length L - k)) = (List.length (List.map intC (mkTo mkI cOne L n k)) ≤ 9223372036854775807 → (decide ((↑k : Int) < (↑(List.length (List.map intC (mkTo
 mkI cOne L n k))) : Int)) = true → (0 ≤ (↑k : Int) ∧ Int.toNat (↑k : Int) < List.length (List.map intC (mkTo mkI cOne L n k))) ∧ (List.map intC (mkTo mkI cOne L n k))[Int.toNat
 (↑k : Int)]? = some [cI (List.getD L (Int.toNat (↑k : Int)) 0)] ∧ rng IntKind.i64 (n + (↑k : Int) + 1) ∧ rng IntKind.i64 ((↑k : Int) + 1) ∧ List.length L - (k + 1) < List.length L
 - k ∧ Tc_markIntSLa L n (li ((↑k : Int) + 1)) (li (n + (↑k : Int) + 1)) (Ob.arr true 1 (List.set (List.map intC (mkTo mkI cOne L n k)) (Int.toNat (↑k : Int)) [cI (n + (↑k :
 Int))])) = Lc_markIntSLa L n (k + 1) ∧ Ic_markIntSLa L n (List.length L - (k + 1)) (Lc_markIntSLa L n (k + 1))) ∧ (decide ((↑k : Int) < (↑(List.length (List.map intC (mkTo mkI
 cOne L n k))) : Int)) = false → True ∧ W0c_markIntSLa L n (li (n + (↑k : Int))) (Ob.arr true 1 (List.map intC (mkTo mkI cOne L n k))) = W0c_markIntSLa L n (li (n + (↑(List.length
 L) : Int))) (Ob.arr true 1 (List.map intC (seqM mkI cOne L n))))) := by kernel_rfl
theorem Sc_markIntSLa (L : List Int) (n : Int) (h0 : 0 ≤ n) (h : n + (↑(List.length L) : Int) ≤ 2147483647)  : LoopSem Try.prog (loopAt Try.f58 0) (Ic_markIntSLa L n)
 (Yc_markIntSLa L n) := by
  refine LoopSem.ofHead wide fun k h => ⟨_, _, run_c_markIntSLa L n k, ?_⟩
  with_reducible repeat' (first | apply And.intro | exact flatI | exact flatS | exact rowLens | (intro; skip) | apply obsN | apply obsC | apply obA | apply obM | apply obB | apply svA | apply tupA | apply lcA | apply lcS | apply svC | apply liC | apply lbC | apply lsC | apply vIc | apply vBc | apply vSc | apply vLc | apply mapC | apply Hc_markIntSLa | apply Ec_markIntSLa | apply EW0c_markIntSLa)
  all_goals (try simp only [std, stdM] at *)
  all_goals (try (first | with_reducible rfl | omega | assumption | (refine (decide_eq_true ?_).symm; assumption) | (refine (decide_eq_false ?_).symm; assumption) | (refine rowGet ?_; (first | omega | (simp only [std, stdM]; omega) | grind)) | (refine getC ?_ rfl; (first | omega | (simp only [std, stdM]; omega) | grind)) | (refine set_row ?_; (simp only [List.length_map, List.length_set, mkTo_len]; omega)) | (refine mkToRow ?_; (first | omega | (simp only [std, stdM]; omega) | grind)) | (refine mkTo_row ?_ rfl; (first | omega | (simp only [std, stdM]; omega) | grind)) | (refine mkTo_step ?_ ?_; (first | omega | (simp only [std, stdM]; omega) | grind); (first | grind [mkTo_all, mkI, cOne_take, intC, mkTo_get, snocI, snocS, rowSnoc])) | (show (_ : St) = _; rfl) | grind [mkTo_all, mkI, cOne_take, intC, mkTo_get, snocI, snocS, rowSnoc]))
theorem run_c_markIntS (L : List Int) (n : Int) : aexec Try.prog (Option.getD (Func.body Try.f58) Code.skip) (entry [Ob.arr true 1 (List.map intC L)] [SV.one (AC.ref 0), li n] 19)
 [Orc.ghost (Ghost.sel [0] [0, 1, 5]), Orc.loop (List.length L - 0) (Lc_markIntSLa L n 0) (Ic_markIntSLa L n) [(True, AEx.exit 0, W0c_markIntSLa L n (li (n + (↑(List.length L) :
 Int))) (Ob.arr true 1 (List.map intC (seqM mkI cOne L n))), [Orc.fin []])]] (finK Try.prog [ResultVar.tmp 4] [Ob.arr true 1 (List.map intC (seqM mkI cOne L n))] (AV.sv (li (n +
 (↑(List.length L) : Int))))) = (Tc_markIntSLa L n (li 0) (li n) (Ob.arr true 1 (List.map intC L)) = Lc_markIntSLa L n 0 ∧ Ic_markIntSLa L n (List.length L - 0) (Lc_markIntSLa L n
 0) ∧ LoopSem Try.prog (loopAt Try.f58 0) (Ic_markIntSLa L n) (Yc_markIntSLa L n) ∧ (True → ObsEq [Ob.arr true 1 (List.map intC (seqM mkI cOne L n))] [Ob.arr true 1 (List.map intC
 (seqM mkI cOne L n))] ∧ AV.sv (li (n + (↑(List.length L) : Int))) = AV.sv (li (n + (↑(List.length L) : Int)))) ∧ True) := by kernel_rfl
theorem c_markIntS (L : List Int) (n : Int) (h0 : 0 ≤ n) (h : n + L.length ≤ 2147483647)  : P_c_markIntS L n := by
  refine CallOK.ofRun wide (run_c_markIntS L n) Try.call58 Try.func58 rfl rfl rfl ?_
  with_reducible repeat' (first | apply And.intro | exact flatI | exact flatS | exact rowLens | (intro; skip) | apply obsN | apply obsC | apply obA | apply obM | apply obB | apply svA | apply tupA | apply lcA | apply lcS | apply svC | apply liC | apply lbC | apply lsC | apply vIc | apply vBc | apply vSc | apply vLc | apply mapC | apply Hc_markIntSLa | apply Ec_markIntSLa | apply Sc_markIntSLa | apply EW0c_markIntSLa)
  all_goals (try simp only [std, stdM] at *)
  all_goals (try (first | with_reducible rfl | omega | assumption | (refine (decide_eq_true ?_).symm; assumption) | (refine (decide_eq_false ?_).symm; assumption) | (refine rowGet ?_; (first | omega | (simp only [std, stdM]; omega) | grind)) | (refine getC ?_ rfl; (first | omega | (simp only [std, stdM]; omega) | grind)) | (refine set_row ?_; (simp only [List.length_map, List.length_set, mkTo_len]; omega)) | (refine mkToRow ?_; (first | omega | (simp only [std, stdM]; omega) | grind)) | (refine mkTo_row ?_ rfl; (first | omega | (simp only [std, stdM]; omega) | grind)) | (refine mkTo_step ?_ ?_; (first | omega | (simp only [std, stdM]; omega) | grind); (first | grind [mkTo_zero, snocI, snocS, rowSnoc])) | (show (_ : St) = _; rfl) | grind [mkTo_zero, snocI, snocS, rowSnoc]))
abbrev P_c_markText (n : Int) : Prop := CallOK Try.prog 60 [] [li n] [] (.sv (ls (mText n)))
def Tc_markTextLa (n : Int) (x0 : SV) (x1 : SV) : St := St.mk (regsOf 20 [(0, AV.sv x0), (3, AV.sv x1)]) [] 0 
def Lc_markTextLa (n : Int) (k : Int × List UInt8) : St := Tc_markTextLa n (li (Prod.fst k)) (ls (mkS (Prod.snd k))) 
def Ic_markTextLa (n : Int) : Nat → St → Prop := Head (Lc_markTextLa n) (fun k => 0 ≤ Prod.fst k ∧ Prod.fst k ≤ n ∧ digs (Int.toNat (Prod.fst k)) ++ Prod.snd k = digs (Int.toNat
 n)) fun k => Int.toNat (Prod.fst k) 
def W0c_markTextLa (n : Int) (x0 : SV) : St := St.mk (regsOf 20 [(3, AV.sv x0)]) [] 0 
def Yc_markTextLa (n : Int) : List (Prop × AEx × St) := [(True, AEx.exit 0, W0c_markTextLa n (ls (mkS (digs (Int.toNat n)))))]
theorem Hc_markTextLa {n : Int} {k : Int × List UInt8} {m : Nat} (h : (fun k => 0 ≤ Prod.fst k ∧ Prod.fst k ≤ n ∧ digs (Int.toNat (Prod.fst k)) ++ Prod.snd k = digs (Int.toNat n))
 k) (hm : (fun k => Int.toNat (Prod.fst k)) k = m) : Ic_markTextLa n m (Lc_markTextLa n k) := hm ▸ Head.mk h
theorem Ec_markTextLa {n : Int} {k : Int × List UInt8} {x0 : SV} {x1 : SV} (h0 : x0 = (li (Prod.fst k))) (h1 : x1 = (ls (mkS (Prod.snd k)))) : Tc_markTextLa n x0 x1 = Lc_markTextLa
 n k := by
  rw [h0, h1]
  rfl
theorem EW0c_markTextLa {n : Int} {x0 y0 : SV} (h0 : x0 = y0) : W0c_markTextLa n x0 = W0c_markTextLa n y0 := by rw [h0]
theorem run_c_markTextLa (n : Int) (k : Int × List UInt8) : aexec Try.prog (loopAt Try.f60 0) (Lc_markTextLa n k) [Orc.br [Orc.bytes [UInt8.ofNat (Int.toNat (48 + Int.tmod
 (Prod.fst k) 10))], Orc.ghost (Ghost.sel [] [0, 3]), Orc.goto (Int.toNat (Int.tdiv (Prod.fst k) 10)) (Lc_markTextLa n (Int.tdiv (Prod.fst k) 10, [UInt8.ofNat (Int.toNat (48 +
 Int.tmod (Prod.fst k) 10))] ++ Prod.snd k))] [Orc.ghost (Ghost.sel [] [3]), Orc.out 0]] (loopK (Ic_markTextLa n) (Yc_markTextLa n) (Int.toNat (Prod.fst k))) = ((decide (0 <
 Prod.fst k) = true → (10 : Int) ≠ 0 ∧ rng IntKind.i64 (48 + Int.tmod (Prod.fst k) 10) ∧ rng IntKind.u8 (48 + Int.tmod (Prod.fst k) 10) ∧ [[Cell.lit (Value.int IntKind.u8 (48 +
 Int.tmod (Prod.fst k) 10))]] = [[Cell.lit (Value.int IntKind.u8 (↑(UInt8.toNat (UInt8.ofNat (Int.toNat (48 + Int.tmod (Prod.fst k) 10)))) : Int))]] ∧ 1 + List.length (Prod.snd k)
 ≤ 9223372036854775807 ∧ (10 : Int) ≠ 0 ∧ rng IntKind.i64 (Int.tdiv (Prod.fst k) 10) ∧ Int.toNat (Int.tdiv (Prod.fst k) 10) < Int.toNat (Prod.fst k) ∧ Tc_markTextLa n (li (Int.tdiv
 (Prod.fst k) 10)) (ls (ByteArray.mk (List.toArray ([UInt8.ofNat (Int.toNat (48 + Int.tmod (Prod.fst k) 10))] ++ Prod.snd k)))) = Lc_markTextLa n (Int.tdiv (Prod.fst k) 10,
 [UInt8.ofNat (Int.toNat (48 + Int.tmod (Prod.fst k) 10))] ++ Prod.snd k) ∧ Ic_markTextLa n (Int.toNat (Int.tdiv (Prod.fst k) 10)) (Lc_markTextLa n (Int.tdiv (Prod.fst k) 10,
 [UInt8.ofNat (Int.toNat (48 + Int.tmod (Prod.fst k) 10))] ++ Prod.snd k))) ∧ (decide (0 < Prod.fst k) = false → True ∧ W0c_markTextLa n (ls (mkS (Prod.snd k))) = W0c_markTextLa n
 (ls (mkS (digs (Int.toNat n)))))) := by kernel_rfl
theorem Sc_markTextLa (n : Int) (h0 : 0 ≤ n) (h : n ≤ 2147483647)  : LoopSem Try.prog (loopAt Try.f60 0) (Ic_markTextLa n) (Yc_markTextLa n) := by
  refine LoopSem.ofHead wide fun k h => ⟨_, _, run_c_markTextLa n k, ?_⟩
  obtain ⟨i, l⟩ := k
  simp only at *
  obtain ⟨g1, g2, g3⟩ := h
  have g4 : l.length ≤ 2147483647 := by
    have := congrArg List.length g3
    have := digs_len n.toNat
    simp only [List.length_append] at *
    omega
  simp only [Int.tmod_eq_emod_of_nonneg g1, Int.tdiv_eq_ediv_of_nonneg g1]
  refine ⟨fun g => ?_, fun g => ?_⟩
  · have g : 0 < i := of_decide_eq_true g
    refine ⟨by decide, by rw [rng64]; omega, by rw [rngu8]; omega, by rw [u8_int (by omega) (by omega)], by omega, by decide, by rw [rng64]; omega, by omega, ?_, ?_⟩
    · apply Ec_markTextLa <;> rfl
    · apply Hc_markTextLa
      · exact ⟨by show 0 ≤ i / 10; omega, by show i / 10 ≤ n; omega, by show digs (i / 10).toNat ++ ([_] ++ l) = _; rw [← g3, digs_int g, List.append_assoc]⟩
      · rfl
  · have g : ¬ 0 < i := of_decide_eq_false g
    refine ⟨trivial, ?_⟩
    have e : i = 0 := by omega
    subst e
    rw [show digs (0 : Int).toNat = [] from digs_zero] at g3
    rw [← g3]; rfl
theorem run_c_markText (n : Int) : aexec Try.prog (Option.getD (Func.body Try.f60) Code.skip) (entry [] [li n] 20) [Orc.br [Orc.fin []] [Orc.ghost (Ghost.sel [] [0, 3]), Orc.loop
 (Int.toNat n) (Lc_markTextLa n (n, [])) (Ic_markTextLa n) [(True, AEx.exit 0, W0c_markTextLa n (ls (mkS (digs (Int.toNat n)))), [Orc.fin []])]]] (finK Try.prog [ResultVar.tmp 2]
 [] (AV.sv (ls (mText n)))) = ((decide (n ≤ 0) = true → ObsEq [] [] ∧ AV.sv (ls (ByteArray.mk #[(109 : UInt8), (48 : UInt8)])) = AV.sv (ls (mText n))) ∧ (decide (n ≤ 0) = false →
 Tc_markTextLa n (li n) (ls (ByteArray.mk #[])) = Lc_markTextLa n (n, []) ∧ Ic_markTextLa n (Int.toNat n) (Lc_markTextLa n (n, [])) ∧ LoopSem Try.prog (loopAt Try.f60 0)
 (Ic_markTextLa n) (Yc_markTextLa n) ∧ (True → 1 + List.length (digs (Int.toNat n)) ≤ 9223372036854775807 ∧ ObsEq [] [] ∧ AV.sv (ls (ByteArray.mk (List.toArray ([(109 : UInt8)] ++
 digs (Int.toNat n))))) = AV.sv (ls (mText n))) ∧ True)) := by kernel_rfl
theorem c_markText (n : Int) (h0 : 0 ≤ n) (h : n ≤ 2147483647)  : P_c_markText n := by
  refine CallOK.ofRun wide (run_c_markText n) Try.call60 Try.func60 rfl rfl rfl ?_
  have g := digs_len n.toNat
  simp only [mText]
  with_reducible repeat' (first | apply And.intro | exact flatI | exact flatS | exact rowLens | (intro; skip) | apply obsN | apply obsC | apply obA | apply obM | apply obB | apply svA | apply tupA | apply lcA | apply lcS | apply svC | apply liC | apply lbC | apply lsC | apply vIc | apply vBc | apply vSc | apply vLc | apply mapC | apply Hc_markTextLa | apply Ec_markTextLa | apply Sc_markTextLa | apply EW0c_markTextLa)
  all_goals (try simp only [std, stdM] at *)
  all_goals (try (first | with_reducible rfl | omega | assumption | (refine (decide_eq_true ?_).symm; assumption) | (refine (decide_eq_false ?_).symm; assumption) | (refine rowGet ?_; (first | omega | (simp only [std, stdM]; omega) | grind)) | (refine getC ?_ rfl; (first | omega | (simp only [std, stdM]; omega) | grind)) | (refine set_row ?_; (simp only [List.length_map, List.length_set, mkTo_len]; omega)) | (refine mkToRow ?_; (first | omega | (simp only [std, stdM]; omega) | grind)) | (refine mkTo_row ?_ rfl; (first | omega | (simp only [std, stdM]; omega) | grind)) | (refine mkTo_step ?_ ?_; (first | omega | (simp only [std, stdM]; omega) | grind); (first | grind [mkS, snocI, snocS, rowSnoc])) | (show (_ : St) = _; rfl) | grind [mkS, snocI, snocS, rowSnoc]))
abbrev P_c_markSyntaxS (x : Syntax) (n : Int) : Prop := CallOK Try.prog 59 [.arr true 5 (x.items.map syntaxC)] [.one (.ref 0), li n] [.arr true 5 ((seqM mkY cY x.items n).map syntaxC)] (.sv (li (n + sumBy cY x.items)))
def Tc_markSyntaxS_sLa (x : Syntax) (n : Int) (x0 : SV) (x1 : SV) (x2 : Ob) : St := St.mk (regsOf 49 [(0, AV.sv (SV.one (AC.ref 0))), (1, AV.sv x1), (5, AV.sv x0)]) [x2] 1 
def Lc_markSyntaxS_sLa (x : Syntax) (n : Int) (k : Nat) : St := Tc_markSyntaxS_sLa x n (li (↑k : Int)) (li (n + (↑(sumBy cY (List.take k (Syntax.items x))) : Int))) (Ob.arr true 5
 (List.map syntaxC (mkTo mkY cY (Syntax.items x) n k))) 
def Ic_markSyntaxS_sLa (x : Syntax) (n : Int) : Nat → St → Prop := Head (Lc_markSyntaxS_sLa x n) (fun k => k ≤ List.length (Syntax.items x) ∧ List.length (Syntax.items x) ≤
 9223372036854775807) fun k => List.length (Syntax.items x) - k 
def W0c_markSyntaxS_sLa (x : Syntax) (n : Int) (x0 : SV) (x1 : Ob) : St := St.mk (regsOf 49 [(1, AV.sv x0)]) [x1] 1 
def Yc_markSyntaxS_sLa (x : Syntax) (n : Int) : List (Prop × AEx × St) := [(True, AEx.exit 0, W0c_markSyntaxS_sLa x n (li (n + (↑(sumBy cY (Syntax.items x)) : Int))) (Ob.arr true 5
 (List.map syntaxC (seqM mkY cY (Syntax.items x) n))))]
theorem Hc_markSyntaxS_sLa {x : Syntax} {n : Int} {k : Nat} {m : Nat} (h : (fun k => k ≤ List.length (Syntax.items x) ∧ List.length (Syntax.items x) ≤ 9223372036854775807) k) (hm :
 (fun k => List.length (Syntax.items x) - k) k = m) : Ic_markSyntaxS_sLa x n m (Lc_markSyntaxS_sLa x n k) := hm ▸ Head.mk h
theorem Ec_markSyntaxS_sLa {x : Syntax} {n : Int} {k : Nat} {x0 : SV} {x1 : SV} {x2 : Ob} (h0 : x0 = (li (↑k : Int))) (h1 : x1 = (li (n + (↑(sumBy cY (List.take k (Syntax.items
 x))) : Int)))) (h2 : x2 = (Ob.arr true 5 (List.map syntaxC (mkTo mkY cY (Syntax.items x) n k)))) : Tc_markSyntaxS_sLa x n x0 x1 x2 = Lc_markSyntaxS_sLa x n k := by
  rw [h0, h1, h2]
  rfl
theorem EW0c_markSyntaxS_sLa {x : Syntax} {n : Int} {x0 y0 : SV} {x1 y1 : Ob} (h0 : x0 = y0) (h1 : x1 = y1) : W0c_markSyntaxS_sLa x n x0 x1 = W0c_markSyntaxS_sLa x n y0 y1 := by rw
 [h0, h1]
abbrev a1__markSyntaxS_sLa (x : Syntax) (k : Nat) := (List.getD (Syntax.items x) (Int.toNat (↑k : Int)) default)
abbrev a3__markSyntaxS_sLa (x : Syntax) (k : Nat) := (↑(sumBy cY (List.take k (Syntax.items x))) : Int)
abbrev a9__markSyntaxS_sLa (x : Syntax) (k : Nat) := (Syntax.scopes (a1__markSyntaxS_sLa x k))
abbrev a11__markSyntaxS_sLa (x : Syntax) (k : Nat) := (Syntax.items (a1__markSyntaxS_sLa x k))
abbrev a2__markSyntaxS_sLa (x : Syntax) (n : Int) (k : Nat) := [cI (n + (a3__markSyntaxS_sLa x k)), cI (n + (a3__markSyntaxS_sLa x k) + 1), cS (mText (n + (a3__markSyntaxS_sLa x k)
 + 1 + 1)), Cell.list (List.map intC (a9__markSyntaxS_sLa x k)), Cell.list (List.map syntaxC (a11__markSyntaxS_sLa x k))]
abbrev a15__markSyntaxS_sLa (x : Syntax) (n : Int) (k : Nat) := (List.map intC (seqM mkI cOne (a9__markSyntaxS_sLa x k) (n + (a3__markSyntaxS_sLa x k) + 1 + 1 + 1)))
abbrev a4__markSyntaxS_sLa (x : Syntax) (n : Int) (k : Nat) := [cI (n + (a3__markSyntaxS_sLa x k)), cI (n + (a3__markSyntaxS_sLa x k) + 1), cS (mText (n + (a3__markSyntaxS_sLa x k)
 + 1 + 1)), Cell.list (a15__markSyntaxS_sLa x n k), Cell.list (List.map syntaxC (a11__markSyntaxS_sLa x k))]
abbrev a5__markSyntaxS_sLa (x : Syntax) (n : Int) (k : Nat) := [cI (n + (a3__markSyntaxS_sLa x k)), cI (n + (a3__markSyntaxS_sLa x k) + 1), cS (Syntax.text (a1__markSyntaxS_sLa x
 k)), Cell.list (List.map intC (a9__markSyntaxS_sLa x k)), Cell.list (List.map syntaxC (a11__markSyntaxS_sLa x k))]
abbrev a6__markSyntaxS_sLa (x : Syntax) (n : Int) (k : Nat) := [cI (n + (a3__markSyntaxS_sLa x k)), cI (Syntax.number (a1__markSyntaxS_sLa x k)), cS (Syntax.text
 (a1__markSyntaxS_sLa x k)), Cell.list (List.map intC (a9__markSyntaxS_sLa x k)), Cell.list (List.map syntaxC (a11__markSyntaxS_sLa x k))]
abbrev a7__markSyntaxS_sLa (x : Syntax) (n : Int) (k : Nat) := (List.map syntaxC (mkTo mkY cY (Syntax.items x) n k))
abbrev a8__markSyntaxS_sLa (x : Syntax) (n : Int) (k : Nat) := (List.set (a7__markSyntaxS_sLa x n k) (Int.toNat (↑k : Int)) (a2__markSyntaxS_sLa x n k))
abbrev a10__markSyntaxS_sLa (x : Syntax) (n : Int) (k : Nat) := (n + (a3__markSyntaxS_sLa x k) + 1 + 1 + 1 + (↑(List.length (a9__markSyntaxS_sLa x k)) : Int))
abbrev a12__markSyntaxS_sLa (x : Syntax) (n : Int) (k : Nat) := (li (n + (a3__markSyntaxS_sLa x k) + 1 + 1 + 1 + (↑(List.length (a9__markSyntaxS_sLa x k)) : Int) + (↑(sumBy cY
 (a11__markSyntaxS_sLa x k)) : Int)))
abbrev a13__markSyntaxS_sLa (x : Syntax) (n : Int) (k : Nat) := (List.set (a7__markSyntaxS_sLa x n k) (Int.toNat (↑k : Int)) (a5__markSyntaxS_sLa x n k))
abbrev a14__markSyntaxS_sLa (x : Syntax) (n : Int) (k : Nat) := (List.set (a8__markSyntaxS_sLa x n k) (Int.toNat (↑k : Int)) (a4__markSyntaxS_sLa x n k))
theorem run_c_markSyntaxS_sLa (x : Syntax) (n : Int) (k : Nat) : aexec Try.prog (loopAt Try.f59 0) (Lc_markSyntaxS_sLa x n k) [Orc.br [Orc.cells (syntaxF (a1__markSyntaxS_sLa x
 k)), Orc.take (a6__markSyntaxS_sLa x n k) (a13__markSyntaxS_sLa x n k) 0, Orc.call [Mode.rd] [] (AV.sv (ls (mText (n + (a3__markSyntaxS_sLa x k) + 1 + 1)))), Orc.take
 (a5__markSyntaxS_sLa x n k) (a8__markSyntaxS_sLa x n k) 0, Orc.sub, Orc.subcall (a2__markSyntaxS_sLa x n k) (List.map intC (a9__markSyntaxS_sLa x k)) 1, Orc.call [Mode.own true 1,
 Mode.rd] [Ob.arr true 1 (a15__markSyntaxS_sLa x n k)] (AV.sv (li (a10__markSyntaxS_sLa x n k))), Orc.sub, Orc.subcall (a4__markSyntaxS_sLa x n k) (List.map syntaxC
 (a11__markSyntaxS_sLa x k)) 5, Orc.call [Mode.own true 5, Mode.rd] [Ob.arr true 5 (List.map syntaxC (seqM mkY cY (a11__markSyntaxS_sLa x k) (a10__markSyntaxS_sLa x n k)))] (AV.sv
 (a12__markSyntaxS_sLa x n k)), Orc.ghost (Ghost.sel [0] [0, 1, 5]), Orc.goto (List.length (Syntax.items x) - (k + 1)) (Lc_markSyntaxS_sLa x n (k + 1))] [Orc.ghost (Ghost.sel [0]
 [1]), Orc.out 0]] (loopK (Ic_markSyntaxS_sLa x n) (Yc_markSyntaxS_sLa x n) (List.length (Syntax.items x) - k)) = (List.length (a7__markSyntaxS_sLa x n k) ≤ 9223372036854775807 →
 (decide ((↑k : Int) < (↑(List.length (a7__markSyntaxS_sLa x n k)) : Int)) = true → (0 ≤ (↑k : Int) ∧ Int.toNat (↑k : Int) < List.length (a7__markSyntaxS_sLa x n k)) ∧
 (a7__markSyntaxS_sLa x n k)[Int.toNat (↑k : Int)]? = some (syntaxF (a1__markSyntaxS_sLa x k)) ∧ rng IntKind.i64 (n + (a3__markSyntaxS_sLa x k) + 1) ∧ (0 ≤ (↑k : Int) ∧ Int.toNat
 (↑k : Int) < List.length (List.set (a7__markSyntaxS_sLa x n k) (Int.toNat (↑k : Int)) (a6__markSyntaxS_sLa x n k))) ∧ (List.set (a7__markSyntaxS_sLa x n k) (Int.toNat (↑k : Int))
 (a6__markSyntaxS_sLa x n k))[Int.toNat (↑k : Int)]? = some (a6__markSyntaxS_sLa x n k) ∧ List.set (List.set (a7__markSyntaxS_sLa x n k) (Int.toNat (↑k : Int)) (a6__markSyntaxS_sLa
 x n k)) (Int.toNat (↑k : Int)) (a5__markSyntaxS_sLa x n k) = List.set (a7__markSyntaxS_sLa x n k) (Int.toNat (↑k : Int)) (a5__markSyntaxS_sLa x n k) ∧ rng IntKind.i64 (n +
 (a3__markSyntaxS_sLa x k) + 1 + 1) ∧ P_c_markText (n + (a3__markSyntaxS_sLa x k) + 1 + 1) ∧ (0 ≤ (↑k : Int) ∧ Int.toNat (↑k : Int) < List.length (a13__markSyntaxS_sLa x n k)) ∧
 (a13__markSyntaxS_sLa x n k)[Int.toNat (↑k : Int)]? = some (a5__markSyntaxS_sLa x n k) ∧ List.set (a13__markSyntaxS_sLa x n k) (Int.toNat (↑k : Int)) (a2__markSyntaxS_sLa x n k) =
 List.set (a7__markSyntaxS_sLa x n k) (Int.toNat (↑k : Int)) (a2__markSyntaxS_sLa x n k) ∧ rng IntKind.i64 (n + (a3__markSyntaxS_sLa x k) + 1 + 1 + 1) ∧ (0 ≤ (↑k : Int) ∧ Int.toNat
 (↑k : Int) < List.length (a8__markSyntaxS_sLa x n k)) ∧ Int.toNat (↑k : Int) < List.length (a8__markSyntaxS_sLa x n k) ∧ (a8__markSyntaxS_sLa x n k)[Int.toNat (↑k : Int)]? = some
 (a2__markSyntaxS_sLa x n k) ∧ some (Cell.list (List.map intC (a9__markSyntaxS_sLa x k))) = some (Cell.list (List.map intC (a9__markSyntaxS_sLa x k))) ∧ (∀ (x_1 : List Cell), x_1 ∈
 List.map intC (a9__markSyntaxS_sLa x k) → List.length x_1 = 1) ∧ P_c_markIntS (a9__markSyntaxS_sLa x k) (n + (a3__markSyntaxS_sLa x k) + 1 + 1 + 1) ∧ (0 ≤ (↑k : Int) ∧ Int.toNat
 (↑k : Int) < List.length (a14__markSyntaxS_sLa x n k)) ∧ Int.toNat (↑k : Int) < List.length (a14__markSyntaxS_sLa x n k) ∧ (a14__markSyntaxS_sLa x n k)[Int.toNat (↑k : Int)]? =
 some (a4__markSyntaxS_sLa x n k) ∧ some (Cell.list (List.map syntaxC (a11__markSyntaxS_sLa x k))) = some (Cell.list (List.map syntaxC (a11__markSyntaxS_sLa x k))) ∧ (∀ (x_1 : List
 Cell), x_1 ∈ List.map syntaxC (a11__markSyntaxS_sLa x k) → List.length x_1 = 5) ∧ CallOK Try.prog 59 [Ob.arr true 5 (List.map syntaxC (a11__markSyntaxS_sLa x k))] [SV.one (AC.ref
 0), li (a10__markSyntaxS_sLa x n k)] [Ob.arr true 5 (List.map syntaxC (seqM mkY cY (a11__markSyntaxS_sLa x k) (a10__markSyntaxS_sLa x n k)))] (AV.sv (a12__markSyntaxS_sLa x n k))
 ∧ rng IntKind.i64 ((↑k : Int) + 1) ∧ List.length (Syntax.items x) - (k + 1) < List.length (Syntax.items x) - k ∧ Tc_markSyntaxS_sLa x n (li ((↑k : Int) + 1)) (a12__markSyntaxS_sLa
 x n k) (Ob.arr true 5 (List.set (a14__markSyntaxS_sLa x n k) (Int.toNat (↑k : Int)) [cI (n + (a3__markSyntaxS_sLa x k)), cI (n + (a3__markSyntaxS_sLa x k) + 1), cS (mText (n +
 (a3__markSyntaxS_sLa x k) + 1 + 1)), Cell.list (a15__markSyntaxS_sLa x n k), Cell.list (List.map syntaxC (seqM mkY cY (a11__markSyntaxS_sLa x k) (a10__markSyntaxS_sLa x n k)))]))
 = Lc_markSyntaxS_sLa x n (k + 1) ∧ Ic_markSyntaxS_sLa x n (List.length (Syntax.items x) - (k + 1)) (Lc_markSyntaxS_sLa x n (k + 1))) ∧ (decide ((↑k : Int) < (↑(List.length
 (a7__markSyntaxS_sLa x n k)) : Int)) = false → True ∧ W0c_markSyntaxS_sLa x n (li (n + (a3__markSyntaxS_sLa x k))) (Ob.arr true 5 (a7__markSyntaxS_sLa x n k)) =
 W0c_markSyntaxS_sLa x n (li (n + (↑(sumBy cY (Syntax.items x)) : Int))) (Ob.arr true 5 (List.map syntaxC (seqM mkY cY (Syntax.items x) n))))) := by kernel_rfl
theorem Sc_markSyntaxS_sLa (x : Syntax) (n : Int) (h0 : 0 ≤ n) (h : n + (↑(sumBy cY (Syntax.items x)) : Int) ≤ 2147483647) (ih : ∀ (z : Syntax), z ∈ Syntax.items x → ∀ (n : Int), 0
 ≤ n → n + (↑(sumBy cY (Syntax.items z)) : Int) ≤ 2147483647 → P_c_markSyntaxS z n)  : LoopSem Try.prog (loopAt Try.f59 0) (Ic_markSyntaxS_sLa x n) (Yc_markSyntaxS_sLa x n) := by
  refine LoopSem.ofHead wide fun k h => ⟨_, _, run_c_markSyntaxS_sLa x n k, ?_⟩
  try delta a1__markSyntaxS_sLa a3__markSyntaxS_sLa a9__markSyntaxS_sLa a11__markSyntaxS_sLa a2__markSyntaxS_sLa a15__markSyntaxS_sLa a4__markSyntaxS_sLa a5__markSyntaxS_sLa a6__markSyntaxS_sLa a7__markSyntaxS_sLa a8__markSyntaxS_sLa a10__markSyntaxS_sLa a12__markSyntaxS_sLa a13__markSyntaxS_sLa a14__markSyntaxS_sLa
  have g0 := sumBy_takeLe cY x.items (k + 1)
  with_reducible repeat' (first | apply And.intro | exact flatI | exact flatS | exact rowLens | exact ih | (intro; skip) | apply obsN | apply obsC | apply obA | apply obM | apply obB | apply svA | apply tupA | apply lcA | apply lcS | apply svC | apply liC | apply lbC | apply lsC | apply vIc | apply vBc | apply vSc | apply vLc | apply mapC | apply Hc_markSyntaxS_sLa | apply Ec_markSyntaxS_sLa | apply EW0c_markSyntaxS_sLa | apply c_markText | apply c_markIntS | apply ih)
  all_goals (try simp only [std, stdM] at *)
  all_goals (try (first | with_reducible apply c_markText | with_reducible apply c_markIntS | with_reducible apply ih | (simp only [← List.map_append]; first | with_reducible apply c_markText | with_reducible apply c_markIntS | with_reducible apply ih)))
  all_goals (try (first | with_reducible rfl | omega | assumption | (refine (decide_eq_true ?_).symm; assumption) | (refine (decide_eq_false ?_).symm; assumption) | (refine rowGet ?_; (first | omega | (simp only [std, stdM]; omega) | grind)) | (refine getC ?_ rfl; (first | omega | (simp only [std, stdM]; omega) | grind)) | (refine set_row ?_; (simp only [List.length_map, List.length_set, mkTo_len]; omega)) | (refine mkToRow ?_; (first | omega | (simp only [std, stdM]; omega) | grind)) | (refine mkTo_row ?_ rfl; (first | omega | (simp only [std, stdM]; omega) | grind)) | (refine mkTo_step ?_ ?_; (first | omega | (simp only [std, stdM]; omega) | grind); (first | exact mkY_C _ _ | grind [sumBy_step, getD_mem', cY_eq, mkY_C, mkTo_all, snocI, snocS, rowSnoc])) | (show (_ : St) = _; rfl) | grind [sumBy_step, getD_mem', cY_eq, mkY_C, mkTo_all, snocI, snocS, rowSnoc]))
theorem run_c_markSyntaxS_s (x : Syntax) (n : Int) : aexec Try.prog (Option.getD (Func.body Try.f59) Code.skip) (entry [Ob.arr true 5 (List.map syntaxC (Syntax.items x))] [SV.one
 (AC.ref 0), li n] 49) [Orc.ghost (Ghost.sel [0] [0, 1, 5]), Orc.loop (List.length (Syntax.items x) - 0) (Lc_markSyntaxS_sLa x n 0) (Ic_markSyntaxS_sLa x n) [(True, AEx.exit 0,
 W0c_markSyntaxS_sLa x n (li (n + (↑(sumBy cY (Syntax.items x)) : Int))) (Ob.arr true 5 (List.map syntaxC (seqM mkY cY (Syntax.items x) n))), [Orc.fin []])]] (finK Try.prog
 [ResultVar.tmp 4] [Ob.arr true 5 (List.map syntaxC (seqM mkY cY (Syntax.items x) n))] (AV.sv (li (n + (↑(sumBy cY (Syntax.items x)) : Int))))) = (Tc_markSyntaxS_sLa x n (li 0) (li
 n) (Ob.arr true 5 (List.map syntaxC (Syntax.items x))) = Lc_markSyntaxS_sLa x n 0 ∧ Ic_markSyntaxS_sLa x n (List.length (Syntax.items x) - 0) (Lc_markSyntaxS_sLa x n 0) ∧ LoopSem
 Try.prog (loopAt Try.f59 0) (Ic_markSyntaxS_sLa x n) (Yc_markSyntaxS_sLa x n) ∧ (True → ObsEq [Ob.arr true 5 (List.map syntaxC (seqM mkY cY (Syntax.items x) n))] [Ob.arr true 5
 (List.map syntaxC (seqM mkY cY (Syntax.items x) n))] ∧ AV.sv (li (n + (↑(sumBy cY (Syntax.items x)) : Int))) = AV.sv (li (n + (↑(sumBy cY (Syntax.items x)) : Int)))) ∧ True) := by
 kernel_rfl
theorem c_markSyntaxS_s (x : Syntax) (n : Int) (h0 : 0 ≤ n) (h : n + sumBy cY x.items ≤ 2147483647) (ih : ∀ z ∈ x.items, ∀ (n : Int) (h0 : 0 ≤ n) (h : n + sumBy cY z.items ≤
 2147483647), P_c_markSyntaxS z n)  : P_c_markSyntaxS x n := by
  refine CallOK.ofRun wide (run_c_markSyntaxS_s x n) Try.call59 Try.func59 rfl rfl rfl ?_
  have gl := cY_len x.items
  with_reducible repeat' (first | apply And.intro | exact flatI | exact flatS | exact rowLens | exact ih | (intro; skip) | apply obsN | apply obsC | apply obA | apply obM | apply obB | apply svA | apply tupA | apply lcA | apply lcS | apply svC | apply liC | apply lbC | apply lsC | apply vIc | apply vBc | apply vSc | apply vLc | apply mapC | apply Hc_markSyntaxS_sLa | apply Ec_markSyntaxS_sLa | apply Sc_markSyntaxS_sLa | apply EW0c_markSyntaxS_sLa | apply c_markText | apply c_markIntS)
  all_goals (try simp only [std, stdM] at *)
  all_goals (try (first | with_reducible apply c_markText | with_reducible apply c_markIntS | with_reducible apply ih | (simp only [← List.map_append]; first | with_reducible apply c_markText | with_reducible apply c_markIntS | with_reducible apply ih)))
  all_goals (try (first | with_reducible rfl | omega | assumption | (refine (decide_eq_true ?_).symm; assumption) | (refine (decide_eq_false ?_).symm; assumption) | (refine rowGet ?_; (first | omega | (simp only [std, stdM]; omega) | grind)) | (refine getC ?_ rfl; (first | omega | (simp only [std, stdM]; omega) | grind)) | (refine set_row ?_; (simp only [List.length_map, List.length_set, mkTo_len]; omega)) | (refine mkToRow ?_; (first | omega | (simp only [std, stdM]; omega) | grind)) | (refine mkTo_row ?_ rfl; (first | omega | (simp only [std, stdM]; omega) | grind)) | (refine mkTo_step ?_ ?_; (first | omega | (simp only [std, stdM]; omega) | grind); (first | grind [mkTo_all, snocI, snocS, rowSnoc])) | (show (_ : St) = _; rfl) | grind [mkTo_all, snocI, snocS, rowSnoc]))
theorem c_markSyntaxS (x : Syntax) : ∀ (n : Int) (h0 : 0 ≤ n) (h : n + sumBy cY x.items ≤ 2147483647), P_c_markSyntaxS x n := Syntax.ind (P := fun x => ∀ (n : Int) (h0 : 0 ≤ n) (h : n + sumBy cY x.items ≤ 2147483647), P_c_markSyntaxS x n) (fun x ih n h0 h => c_markSyntaxS_s x n h0 h ih) x
theorem c_markSyntaxSL (L : List Syntax) (n : Int) (h0 : 0 ≤ n) (h : n + sumBy cY L ≤ 2147483647) : P_c_markSyntaxS { (default : Syntax) with items := L } n := c_markSyntaxS { (default : Syntax) with items := L } n h0 h
abbrev P_c_markSyntax (x : Syntax) (n : Int) : Prop := CallOK Try.prog 23 [.arr true 1 (x.scopes.map intC), .arr true 5 (x.items.map syntaxC)] [.agg [vI x.kind, vI x.number, vS x.text, .ref 0, .ref 1], li n] [.arr true 1 ((seqM mkI cOne x.scopes (n)).map intC), .arr true 5 ((seqM mkY cY x.items (n + x.scopes.length)).map syntaxC)] (.sv (li (n + x.scopes.length + sumBy cY x.items)))
theorem run_c_markSyntax (x : Syntax) (n : Int) : aexec Try.prog (Option.getD (Func.body Try.f23) Code.skip) (entry [Ob.arr true 1 (List.map intC (Syntax.scopes x)), Ob.arr true 5
 (List.map syntaxC (Syntax.items x))] [SV.agg [vI (Syntax.kind x), vI (Syntax.number x), vS (Syntax.text x), AC.ref 0, AC.ref 1], li n] 14) [Orc.call [Mode.own true 1, Mode.rd]
 [Ob.arr true 1 (List.map intC (seqM mkI cOne (Syntax.scopes x) n))] (AV.sv (li (n + (↑(List.length (Syntax.scopes x)) : Int)))), Orc.call [Mode.own true 5, Mode.rd] [Ob.arr true 5
 (List.map syntaxC (seqM mkY cY (Syntax.items x) (n + (↑(List.length (Syntax.scopes x)) : Int))))] (AV.sv (li (n + (↑(List.length (Syntax.scopes x)) : Int) + (↑(sumBy cY
 (Syntax.items x)) : Int)))), Orc.fin []] (finK Try.prog [ResultVar.tmp 4] [Ob.arr true 1 (List.map intC (seqM mkI cOne (Syntax.scopes x) n)), Ob.arr true 5 (List.map syntaxC (seqM
 mkY cY (Syntax.items x) (n + (↑(List.length (Syntax.scopes x)) : Int))))] (AV.sv (li (n + (↑(List.length (Syntax.scopes x)) : Int) + (↑(sumBy cY (Syntax.items x)) : Int))))) =
 (P_c_markIntS (Syntax.scopes x) n ∧ CallOK Try.prog 59 [Ob.arr true 5 (List.map syntaxC (Syntax.items x))] [SV.one (AC.ref 0), li (n + (↑(List.length (Syntax.scopes x)) : Int))]
 [Ob.arr true 5 (List.map syntaxC (seqM mkY cY (Syntax.items x) (n + (↑(List.length (Syntax.scopes x)) : Int))))] (AV.sv (li (n + (↑(List.length (Syntax.scopes x)) : Int) +
 (↑(sumBy cY (Syntax.items x)) : Int)))) ∧ ObsEq [Ob.arr true 1 (List.map intC (seqM mkI cOne (Syntax.scopes x) n)), Ob.arr true 5 (List.map syntaxC (seqM mkY cY (Syntax.items x)
 (n + (↑(List.length (Syntax.scopes x)) : Int))))] [Ob.arr true 1 (List.map intC (seqM mkI cOne (Syntax.scopes x) n)), Ob.arr true 5 (List.map syntaxC (seqM mkY cY (Syntax.items x)
 (n + (↑(List.length (Syntax.scopes x)) : Int))))] ∧ AV.sv (li (n + (↑(List.length (Syntax.scopes x)) : Int) + (↑(sumBy cY (Syntax.items x)) : Int))) = AV.sv (li (n +
 (↑(List.length (Syntax.scopes x)) : Int) + (↑(sumBy cY (Syntax.items x)) : Int)))) := by kernel_rfl
theorem c_markSyntax (x : Syntax) (n : Int) (h0 : 0 ≤ n) (h : n + (x.scopes.length + sumBy cY x.items : Nat) ≤ 2147483647)  : P_c_markSyntax x n := by
  refine CallOK.ofRun wide (run_c_markSyntax x n) Try.call23 Try.func23 rfl rfl rfl ?_
  with_reducible repeat' (first | apply And.intro | exact flatI | exact flatS | exact rowLens | (intro; skip) | apply obsN | apply obsC | apply obA | apply obM | apply obB | apply svA | apply tupA | apply lcA | apply lcS | apply svC | apply liC | apply lbC | apply lsC | apply vIc | apply vBc | apply vSc | apply vLc | apply mapC | apply c_markIntS | apply c_markSyntaxS | apply c_markSyntaxSL)
  all_goals (try simp only [std, stdM] at *)
  all_goals (try (first | with_reducible apply c_markIntS | with_reducible apply c_markSyntaxS | with_reducible apply c_markSyntaxSL | (simp only [← List.map_append]; first | with_reducible apply c_markIntS | with_reducible apply c_markSyntaxS | with_reducible apply c_markSyntaxSL)))
  all_goals (try (first | with_reducible rfl | omega | assumption | (refine (decide_eq_true ?_).symm; assumption) | (refine (decide_eq_false ?_).symm; assumption) | (refine rowGet ?_; (first | omega | (simp only [std, stdM]; omega) | grind)) | (refine getC ?_ rfl; (first | omega | (simp only [std, stdM]; omega) | grind)) | (refine set_row ?_; (simp only [List.length_map, List.length_set, mkTo_len]; omega)) | (refine mkToRow ?_; (first | omega | (simp only [std, stdM]; omega) | grind)) | (refine mkTo_row ?_ rfl; (first | omega | (simp only [std, stdM]; omega) | grind)) | (refine mkTo_step ?_ ?_; (first | omega | (simp only [std, stdM]; omega) | grind); (first | grind [snocI, snocS, rowSnoc])) | (show (_ : St) = _; rfl) | grind [snocI, snocS, rowSnoc]))
abbrev P_c_markCaptureS (x : Capture) (n : Int) : Prop := CallOK Try.prog 24 [.arr true 12 (x.each.map captureC)] [.one (.ref 0), li n] [.arr true 12 ((seqM mkP cP x.each n).map captureC)] (.sv (li (n + sumBy cP x.each)))
def Tc_markCaptureS_sLa (x : Capture) (n : Int) (x0 : SV) (x1 : SV) (x2 : Ob) : St := St.mk (regsOf 109 [(0, AV.sv (SV.one (AC.ref 0))), (1, AV.sv x1), (5, AV.sv x0)]) [x2] 1 
def Lc_markCaptureS_sLa (x : Capture) (n : Int) (k : Nat) : St := Tc_markCaptureS_sLa x n (li (↑k : Int)) (li (n + (↑(sumBy cP (List.take k (Capture.each x))) : Int))) (Ob.arr true
 12 (List.map captureC (mkTo mkP cP (Capture.each x) n k))) 
def Ic_markCaptureS_sLa (x : Capture) (n : Int) : Nat → St → Prop := Head (Lc_markCaptureS_sLa x n) (fun k => k ≤ List.length (Capture.each x) ∧ List.length (Capture.each x) ≤
 9223372036854775807) fun k => List.length (Capture.each x) - k 
def W0c_markCaptureS_sLa (x : Capture) (n : Int) (x0 : SV) (x1 : Ob) : St := St.mk (regsOf 109 [(1, AV.sv x0)]) [x1] 1 
def Yc_markCaptureS_sLa (x : Capture) (n : Int) : List (Prop × AEx × St) := [(True, AEx.exit 0, W0c_markCaptureS_sLa x n (li (n + (↑(sumBy cP (Capture.each x)) : Int))) (Ob.arr
 true 12 (List.map captureC (seqM mkP cP (Capture.each x) n))))]
theorem Hc_markCaptureS_sLa {x : Capture} {n : Int} {k : Nat} {m : Nat} (h : (fun k => k ≤ List.length (Capture.each x) ∧ List.length (Capture.each x) ≤ 9223372036854775807) k) (hm
 : (fun k => List.length (Capture.each x) - k) k = m) : Ic_markCaptureS_sLa x n m (Lc_markCaptureS_sLa x n k) := hm ▸ Head.mk h
theorem Ec_markCaptureS_sLa {x : Capture} {n : Int} {k : Nat} {x0 : SV} {x1 : SV} {x2 : Ob} (h0 : x0 = (li (↑k : Int))) (h1 : x1 = (li (n + (↑(sumBy cP (List.take k (Capture.each
 x))) : Int)))) (h2 : x2 = (Ob.arr true 12 (List.map captureC (mkTo mkP cP (Capture.each x) n k)))) : Tc_markCaptureS_sLa x n x0 x1 x2 = Lc_markCaptureS_sLa x n k := by
  rw [h0, h1, h2]
  rfl
theorem EW0c_markCaptureS_sLa {x : Capture} {n : Int} {x0 y0 : SV} {x1 y1 : Ob} (h0 : x0 = y0) (h1 : x1 = y1) : W0c_markCaptureS_sLa x n x0 x1 = W0c_markCaptureS_sLa x n y0 y1 :=
 by rw [h0, h1]
abbrev a28__markCaptureS_sLa (x : Capture) (n : Int) (k : Nat) := (List.map captureC (mkTo mkP cP (Capture.each x) n k))
abbrev a11__markCaptureS_sLa (x : Capture) (k : Nat) := (↑(sumBy cP (List.take k (Capture.each x))) : Int)
abbrev a35__markCaptureS_sLa (x : Capture) (n : Int) (k : Nat) := (n + (a11__markCaptureS_sLa x k) + 1)
abbrev a34__markCaptureS_sLa (x : Capture) (n : Int) (k : Nat) := (n + (a11__markCaptureS_sLa x k) + 1 + 1)
abbrev a2__markCaptureS_sLa (x : Capture) (k : Nat) := (List.getD (Capture.each x) (Int.toNat (↑k : Int)) default)
abbrev a12__markCaptureS_sLa (x : Capture) (k : Nat) := (Capture.name (a2__markCaptureS_sLa x k))
abbrev a41__markCaptureS_sLa (x : Capture) (k : Nat) := (Syntax.scopes (a12__markCaptureS_sLa x k))
abbrev a36__markCaptureS_sLa (x : Capture) (k : Nat) := (List.map syntaxC (Syntax.items (a12__markCaptureS_sLa x k)))
abbrev a15__markCaptureS_sLa (x : Capture) (k : Nat) := (Capture.form (a2__markCaptureS_sLa x k))
abbrev a33__markCaptureS_sLa (x : Capture) (k : Nat) := (Syntax.scopes (a15__markCaptureS_sLa x k))
abbrev a37__markCaptureS_sLa (x : Capture) (k : Nat) := (List.map intC (a33__markCaptureS_sLa x k))
abbrev a32__markCaptureS_sLa (x : Capture) (k : Nat) := (List.map syntaxC (Syntax.items (a15__markCaptureS_sLa x k)))
abbrev a31__markCaptureS_sLa (x : Capture) (k : Nat) := (List.map captureC (Capture.each (a2__markCaptureS_sLa x k)))
abbrev a9__markCaptureS_sLa (x : Capture) (n : Int) (k : Nat) := [cI (n + (a11__markCaptureS_sLa x k)), cI (a35__markCaptureS_sLa x n k), cS (mText (a34__markCaptureS_sLa x n k)),
 Cell.list (List.map intC (a41__markCaptureS_sLa x k)), Cell.list (a36__markCaptureS_sLa x k), cI (Capture.depth (a2__markCaptureS_sLa x k)), cI (Syntax.kind (a15__markCaptureS_sLa
 x k)), cI (Syntax.number (a15__markCaptureS_sLa x k)), cS (Syntax.text (a15__markCaptureS_sLa x k)), Cell.list (a37__markCaptureS_sLa x k), Cell.list (a32__markCaptureS_sLa x k),
 Cell.list (a31__markCaptureS_sLa x k)]
abbrev a38__markCaptureS_sLa (x : Capture) (n : Int) (k : Nat) := (List.set (a28__markCaptureS_sLa x n k) (Int.toNat (↑k : Int)) (a9__markCaptureS_sLa x n k))
abbrev a21__markCaptureS_sLa (x : Capture) (n : Int) (k : Nat) := (List.map intC (seqM mkI cOne (a41__markCaptureS_sLa x k) (n + (a11__markCaptureS_sLa x k) + 1 + 1 + 1)))
abbrev a18__markCaptureS_sLa (x : Capture) (n : Int) (k : Nat) := [cI (n + (a11__markCaptureS_sLa x k)), cI (a35__markCaptureS_sLa x n k), cS (mText (a34__markCaptureS_sLa x n k)),
 Cell.list (a21__markCaptureS_sLa x n k), Cell.list (a36__markCaptureS_sLa x k), cI (Capture.depth (a2__markCaptureS_sLa x k)), cI (Syntax.kind (a15__markCaptureS_sLa x k)), cI
 (Syntax.number (a15__markCaptureS_sLa x k)), cS (Syntax.text (a15__markCaptureS_sLa x k)), Cell.list (a37__markCaptureS_sLa x k), Cell.list (a32__markCaptureS_sLa x k), Cell.list
 (a31__markCaptureS_sLa x k)]
abbrev a1__markCaptureS_sLa (x : Capture) (n : Int) (k : Nat) := (List.set (a38__markCaptureS_sLa x n k) (Int.toNat (↑k : Int)) (a18__markCaptureS_sLa x n k))
abbrev a14__markCaptureS_sLa (x : Capture) (k : Nat) := (↑(List.length (a41__markCaptureS_sLa x k)) : Int)
abbrev a20__markCaptureS_sLa (x : Capture) (n : Int) (k : Nat) := (List.map syntaxC (seqM mkY cY (Syntax.items (a12__markCaptureS_sLa x k)) (n + (a11__markCaptureS_sLa x k) + 1 + 1
 + 1 + (a14__markCaptureS_sLa x k))))
abbrev a17__markCaptureS_sLa (x : Capture) (k : Nat) := (↑(sumBy cY (Syntax.items (a12__markCaptureS_sLa x k))) : Int)
abbrev a23__markCaptureS_sLa (x : Capture) (n : Int) (k : Nat) := (n + (a11__markCaptureS_sLa x k) + 1 + 1 + 1 + (a14__markCaptureS_sLa x k) + (a17__markCaptureS_sLa x k))
abbrev a27__markCaptureS_sLa (x : Capture) (n : Int) (k : Nat) := (n + (a11__markCaptureS_sLa x k) + 1 + 1 + 1 + (a14__markCaptureS_sLa x k) + (a17__markCaptureS_sLa x k) + 1)
abbrev a30__markCaptureS_sLa (x : Capture) (n : Int) (k : Nat) := (n + (a11__markCaptureS_sLa x k) + 1 + 1 + 1 + (a14__markCaptureS_sLa x k) + (a17__markCaptureS_sLa x k) + 1 + 1)
abbrev a24__markCaptureS_sLa (x : Capture) (n : Int) (k : Nat) := (n + (a11__markCaptureS_sLa x k) + 1 + 1 + 1 + (a14__markCaptureS_sLa x k) + (a17__markCaptureS_sLa x k) + 1 + 1 +
 1)
abbrev a3__markCaptureS_sLa (x : Capture) (n : Int) (k : Nat) := [cI (n + (a11__markCaptureS_sLa x k)), cI (a35__markCaptureS_sLa x n k), cS (mText (a34__markCaptureS_sLa x n k)),
 Cell.list (a21__markCaptureS_sLa x n k), Cell.list (a20__markCaptureS_sLa x n k), cI (a23__markCaptureS_sLa x n k), cI (a27__markCaptureS_sLa x n k), cI (a30__markCaptureS_sLa x n
 k), cS (mText (a24__markCaptureS_sLa x n k)), Cell.list (a37__markCaptureS_sLa x k), Cell.list (a32__markCaptureS_sLa x k), Cell.list (a31__markCaptureS_sLa x k)]
abbrev a26__markCaptureS_sLa (x : Capture) (n : Int) (k : Nat) := (n + (a11__markCaptureS_sLa x k) + 1 + 1 + 1 + (a14__markCaptureS_sLa x k) + (a17__markCaptureS_sLa x k) + 1 + 1 +
 1 + 1)
abbrev a47__markCaptureS_sLa (x : Capture) (n : Int) (k : Nat) := (List.map intC (seqM mkI cOne (a33__markCaptureS_sLa x k) (a26__markCaptureS_sLa x n k)))
abbrev a4__markCaptureS_sLa (x : Capture) (n : Int) (k : Nat) := [cI (n + (a11__markCaptureS_sLa x k)), cI (a35__markCaptureS_sLa x n k), cS (mText (a34__markCaptureS_sLa x n k)),
 Cell.list (a21__markCaptureS_sLa x n k), Cell.list (a20__markCaptureS_sLa x n k), cI (a23__markCaptureS_sLa x n k), cI (a27__markCaptureS_sLa x n k), cI (a30__markCaptureS_sLa x n
 k), cS (mText (a24__markCaptureS_sLa x n k)), Cell.list (a47__markCaptureS_sLa x n k), Cell.list (a32__markCaptureS_sLa x k), Cell.list (a31__markCaptureS_sLa x k)]
abbrev a22__markCaptureS_sLa (x : Capture) (n : Int) (k : Nat) := (n + (a11__markCaptureS_sLa x k) + 1 + 1 + 1 + (a14__markCaptureS_sLa x k) + (a17__markCaptureS_sLa x k) + 1 + 1 +
 1 + 1 + (↑(List.length (a33__markCaptureS_sLa x k)) : Int))
abbrev a40__markCaptureS_sLa (x : Capture) (n : Int) (k : Nat) := (List.map syntaxC (seqM mkY cY (Syntax.items (a15__markCaptureS_sLa x k)) (a22__markCaptureS_sLa x n k)))
abbrev a5__markCaptureS_sLa (x : Capture) (n : Int) (k : Nat) := [cI (n + (a11__markCaptureS_sLa x k)), cI (a35__markCaptureS_sLa x n k), cS (mText (a34__markCaptureS_sLa x n k)),
 Cell.list (a21__markCaptureS_sLa x n k), Cell.list (a20__markCaptureS_sLa x n k), cI (a23__markCaptureS_sLa x n k), cI (a27__markCaptureS_sLa x n k), cI (a30__markCaptureS_sLa x n
 k), cS (mText (a24__markCaptureS_sLa x n k)), Cell.list (a47__markCaptureS_sLa x n k), Cell.list (a40__markCaptureS_sLa x n k), Cell.list (a31__markCaptureS_sLa x k)]
abbrev a6__markCaptureS_sLa (x : Capture) (n : Int) (k : Nat) := [cI (n + (a11__markCaptureS_sLa x k)), cI (a35__markCaptureS_sLa x n k), cS (mText (a34__markCaptureS_sLa x n k)),
 Cell.list (a21__markCaptureS_sLa x n k), Cell.list (a20__markCaptureS_sLa x n k), cI (a23__markCaptureS_sLa x n k), cI (a27__markCaptureS_sLa x n k), cI (a30__markCaptureS_sLa x n
 k), cS (Syntax.text (a15__markCaptureS_sLa x k)), Cell.list (a37__markCaptureS_sLa x k), Cell.list (a32__markCaptureS_sLa x k), Cell.list (a31__markCaptureS_sLa x k)]
abbrev a7__markCaptureS_sLa (x : Capture) (n : Int) (k : Nat) := [cI (n + (a11__markCaptureS_sLa x k)), cI (a35__markCaptureS_sLa x n k), cS (mText (a34__markCaptureS_sLa x n k)),
 Cell.list (a21__markCaptureS_sLa x n k), Cell.list (a20__markCaptureS_sLa x n k), cI (a23__markCaptureS_sLa x n k), cI (a27__markCaptureS_sLa x n k), cI (Syntax.number
 (a15__markCaptureS_sLa x k)), cS (Syntax.text (a15__markCaptureS_sLa x k)), Cell.list (a37__markCaptureS_sLa x k), Cell.list (a32__markCaptureS_sLa x k), Cell.list
 (a31__markCaptureS_sLa x k)]
abbrev a8__markCaptureS_sLa (x : Capture) (n : Int) (k : Nat) := [cI (n + (a11__markCaptureS_sLa x k)), cI (a35__markCaptureS_sLa x n k), cS (mText (a34__markCaptureS_sLa x n k)),
 Cell.list (a21__markCaptureS_sLa x n k), Cell.list (a20__markCaptureS_sLa x n k), cI (a23__markCaptureS_sLa x n k), cI (Syntax.kind (a15__markCaptureS_sLa x k)), cI (Syntax.number
 (a15__markCaptureS_sLa x k)), cS (Syntax.text (a15__markCaptureS_sLa x k)), Cell.list (a37__markCaptureS_sLa x k), Cell.list (a32__markCaptureS_sLa x k), Cell.list
 (a31__markCaptureS_sLa x k)]
abbrev a10__markCaptureS_sLa (x : Capture) (n : Int) (k : Nat) := [cI (n + (a11__markCaptureS_sLa x k)), cI (a35__markCaptureS_sLa x n k), cS (Syntax.text (a12__markCaptureS_sLa x
 k)), Cell.list (List.map intC (a41__markCaptureS_sLa x k)), Cell.list (a36__markCaptureS_sLa x k), cI (Capture.depth (a2__markCaptureS_sLa x k)), cI (Syntax.kind
 (a15__markCaptureS_sLa x k)), cI (Syntax.number (a15__markCaptureS_sLa x k)), cS (Syntax.text (a15__markCaptureS_sLa x k)), Cell.list (a37__markCaptureS_sLa x k), Cell.list
 (a32__markCaptureS_sLa x k), Cell.list (a31__markCaptureS_sLa x k)]
abbrev a13__markCaptureS_sLa (x : Capture) (n : Int) (k : Nat) := [cI (n + (a11__markCaptureS_sLa x k)), cI (a35__markCaptureS_sLa x n k), cS (mText (a34__markCaptureS_sLa x n k)),
 Cell.list (a21__markCaptureS_sLa x n k), Cell.list (a20__markCaptureS_sLa x n k), cI (Capture.depth (a2__markCaptureS_sLa x k)), cI (Syntax.kind (a15__markCaptureS_sLa x k)), cI
 (Syntax.number (a15__markCaptureS_sLa x k)), cS (Syntax.text (a15__markCaptureS_sLa x k)), Cell.list (a37__markCaptureS_sLa x k), Cell.list (a32__markCaptureS_sLa x k), Cell.list
 (a31__markCaptureS_sLa x k)]
abbrev a16__markCaptureS_sLa (x : Capture) (n : Int) (k : Nat) := [cI (n + (a11__markCaptureS_sLa x k)), cI (Syntax.number (a12__markCaptureS_sLa x k)), cS (Syntax.text
 (a12__markCaptureS_sLa x k)), Cell.list (List.map intC (a41__markCaptureS_sLa x k)), Cell.list (a36__markCaptureS_sLa x k), cI (Capture.depth (a2__markCaptureS_sLa x k)), cI
 (Syntax.kind (a15__markCaptureS_sLa x k)), cI (Syntax.number (a15__markCaptureS_sLa x k)), cS (Syntax.text (a15__markCaptureS_sLa x k)), Cell.list (a37__markCaptureS_sLa x k),
 Cell.list (a32__markCaptureS_sLa x k), Cell.list (a31__markCaptureS_sLa x k)]
abbrev a19__markCaptureS_sLa (x : Capture) (n : Int) (k : Nat) := (n + (a11__markCaptureS_sLa x k) + 1 + 1 + 1 + (a14__markCaptureS_sLa x k) + (a17__markCaptureS_sLa x k) + 1 + 1 +
 1 + 1 + (↑(List.length (a33__markCaptureS_sLa x k)) : Int) + (↑(sumBy cY (Syntax.items (a15__markCaptureS_sLa x k))) : Int))
abbrev a39__markCaptureS_sLa (x : Capture) (n : Int) (k : Nat) := (List.set (a1__markCaptureS_sLa x n k) (Int.toNat (↑k : Int)) (a3__markCaptureS_sLa x n k))
abbrev a25__markCaptureS_sLa (x : Capture) (n : Int) (k : Nat) := (List.set (a39__markCaptureS_sLa x n k) (Int.toNat (↑k : Int)) (a4__markCaptureS_sLa x n k))
abbrev a29__markCaptureS_sLa (x : Capture) (n : Int) (k : Nat) := (li (n + (a11__markCaptureS_sLa x k) + 1 + 1 + 1 + (a14__markCaptureS_sLa x k) + (a17__markCaptureS_sLa x k) + 1 +
 1 + 1 + 1 + (↑(List.length (a33__markCaptureS_sLa x k)) : Int) + (↑(sumBy cY (Syntax.items (a15__markCaptureS_sLa x k))) : Int) + (↑(sumBy cP (Capture.each (a2__markCaptureS_sLa x
 k))) : Int)))
abbrev a42__markCaptureS_sLa (x : Capture) (n : Int) (k : Nat) := (List.set (a28__markCaptureS_sLa x n k) (Int.toNat (↑k : Int)) (a10__markCaptureS_sLa x n k))
abbrev a43__markCaptureS_sLa (x : Capture) (n : Int) (k : Nat) := (List.set (a25__markCaptureS_sLa x n k) (Int.toNat (↑k : Int)) (a5__markCaptureS_sLa x n k))
abbrev a44__markCaptureS_sLa (x : Capture) (n : Int) (k : Nat) := (List.set (a1__markCaptureS_sLa x n k) (Int.toNat (↑k : Int)) (a8__markCaptureS_sLa x n k))
abbrev a45__markCaptureS_sLa (x : Capture) (n : Int) (k : Nat) := (List.set (a1__markCaptureS_sLa x n k) (Int.toNat (↑k : Int)) (a7__markCaptureS_sLa x n k))
abbrev a46__markCaptureS_sLa (x : Capture) (n : Int) (k : Nat) := (List.set (a1__markCaptureS_sLa x n k) (Int.toNat (↑k : Int)) (a6__markCaptureS_sLa x n k))
theorem run_c_markCaptureS_sLa (x : Capture) (n : Int) (k : Nat) : aexec Try.prog (loopAt Try.f24 0) (Lc_markCaptureS_sLa x n k) [Orc.br [Orc.cells (captureF (a2__markCaptureS_sLa
 x k)), Orc.take (a16__markCaptureS_sLa x n k) (a42__markCaptureS_sLa x n k) 0, Orc.call [Mode.rd] [] (AV.sv (ls (mText (a34__markCaptureS_sLa x n k)))), Orc.take
 (a10__markCaptureS_sLa x n k) (a38__markCaptureS_sLa x n k) 0, Orc.sub, Orc.subcall (a9__markCaptureS_sLa x n k) (List.map intC (a41__markCaptureS_sLa x k)) 1, Orc.call [Mode.own
 true 1, Mode.rd] [Ob.arr true 1 (a21__markCaptureS_sLa x n k)] (AV.sv (li (n + (a11__markCaptureS_sLa x k) + 1 + 1 + 1 + (a14__markCaptureS_sLa x k)))), Orc.sub, Orc.subcall
 (a18__markCaptureS_sLa x n k) (a36__markCaptureS_sLa x k) 5, Orc.call [Mode.own true 5, Mode.rd] [Ob.arr true 5 (a20__markCaptureS_sLa x n k)] (AV.sv (li (a23__markCaptureS_sLa x
 n k))), Orc.take (a13__markCaptureS_sLa x n k) (a44__markCaptureS_sLa x n k) 0, Orc.take (a8__markCaptureS_sLa x n k) (a45__markCaptureS_sLa x n k) 0, Orc.take
 (a7__markCaptureS_sLa x n k) (a46__markCaptureS_sLa x n k) 0, Orc.call [Mode.rd] [] (AV.sv (ls (mText (a24__markCaptureS_sLa x n k)))), Orc.take (a6__markCaptureS_sLa x n k)
 (a39__markCaptureS_sLa x n k) 0, Orc.sub, Orc.subcall (a3__markCaptureS_sLa x n k) (a37__markCaptureS_sLa x k) 1, Orc.call [Mode.own true 1, Mode.rd] [Ob.arr true 1
 (a47__markCaptureS_sLa x n k)] (AV.sv (li (a22__markCaptureS_sLa x n k))), Orc.sub, Orc.subcall (a4__markCaptureS_sLa x n k) (a32__markCaptureS_sLa x k) 5, Orc.call [Mode.own true
 5, Mode.rd] [Ob.arr true 5 (a40__markCaptureS_sLa x n k)] (AV.sv (li (a19__markCaptureS_sLa x n k))), Orc.sub, Orc.subcall (a5__markCaptureS_sLa x n k) (a31__markCaptureS_sLa x k)
 12, Orc.call [Mode.own true 12, Mode.rd] [Ob.arr true 12 (List.map captureC (seqM mkP cP (Capture.each (a2__markCaptureS_sLa x k)) (a19__markCaptureS_sLa x n k)))] (AV.sv
 (a29__markCaptureS_sLa x n k)), Orc.ghost (Ghost.sel [0] [0, 1, 5]), Orc.goto (List.length (Capture.each x) - (k + 1)) (Lc_markCaptureS_sLa x n (k + 1))] [Orc.ghost (Ghost.sel [0]
 [1]), Orc.out 0]] (loopK (Ic_markCaptureS_sLa x n) (Yc_markCaptureS_sLa x n) (List.length (Capture.each x) - k)) = (List.length (a28__markCaptureS_sLa x n k) ≤ 9223372036854775807
 → (decide ((↑k : Int) < (↑(List.length (a28__markCaptureS_sLa x n k)) : Int)) = true → (0 ≤ (↑k : Int) ∧ Int.toNat (↑k : Int) < List.length (a28__markCaptureS_sLa x n k)) ∧
 (a28__markCaptureS_sLa x n k)[Int.toNat (↑k : Int)]? = some (captureF (a2__markCaptureS_sLa x k)) ∧ rng IntKind.i64 (a35__markCaptureS_sLa x n k) ∧ (0 ≤ (↑k : Int) ∧ Int.toNat (↑k
 : Int) < List.length (List.set (a28__markCaptureS_sLa x n k) (Int.toNat (↑k : Int)) (a16__markCaptureS_sLa x n k))) ∧ (List.set (a28__markCaptureS_sLa x n k) (Int.toNat (↑k :
 Int)) (a16__markCaptureS_sLa x n k))[Int.toNat (↑k : Int)]? = some (a16__markCaptureS_sLa x n k) ∧ List.set (List.set (a28__markCaptureS_sLa x n k) (Int.toNat (↑k : Int))
 (a16__markCaptureS_sLa x n k)) (Int.toNat (↑k : Int)) (a10__markCaptureS_sLa x n k) = List.set (a28__markCaptureS_sLa x n k) (Int.toNat (↑k : Int)) (a10__markCaptureS_sLa x n k) ∧
 rng IntKind.i64 (a34__markCaptureS_sLa x n k) ∧ P_c_markText (a34__markCaptureS_sLa x n k) ∧ (0 ≤ (↑k : Int) ∧ Int.toNat (↑k : Int) < List.length (a42__markCaptureS_sLa x n k)) ∧
 (a42__markCaptureS_sLa x n k)[Int.toNat (↑k : Int)]? = some (a10__markCaptureS_sLa x n k) ∧ List.set (a42__markCaptureS_sLa x n k) (Int.toNat (↑k : Int)) (a9__markCaptureS_sLa x n
 k) = List.set (a28__markCaptureS_sLa x n k) (Int.toNat (↑k : Int)) (a9__markCaptureS_sLa x n k) ∧ rng IntKind.i64 (n + (a11__markCaptureS_sLa x k) + 1 + 1 + 1) ∧ (0 ≤ (↑k : Int) ∧
 Int.toNat (↑k : Int) < List.length (a38__markCaptureS_sLa x n k)) ∧ Int.toNat (↑k : Int) < List.length (a38__markCaptureS_sLa x n k) ∧ (a38__markCaptureS_sLa x n k)[Int.toNat (↑k
 : Int)]? = some (a9__markCaptureS_sLa x n k) ∧ some (Cell.list (List.map intC (a41__markCaptureS_sLa x k))) = some (Cell.list (List.map intC (a41__markCaptureS_sLa x k))) ∧ (∀
 (x_1 : List Cell), x_1 ∈ List.map intC (a41__markCaptureS_sLa x k) → List.length x_1 = 1) ∧ P_c_markIntS (a41__markCaptureS_sLa x k) (n + (a11__markCaptureS_sLa x k) + 1 + 1 + 1)
 ∧ (0 ≤ (↑k : Int) ∧ Int.toNat (↑k : Int) < List.length (a1__markCaptureS_sLa x n k)) ∧ Int.toNat (↑k : Int) < List.length (a1__markCaptureS_sLa x n k) ∧ (a1__markCaptureS_sLa x n
 k)[Int.toNat (↑k : Int)]? = some (a18__markCaptureS_sLa x n k) ∧ some (Cell.list (a36__markCaptureS_sLa x k)) = some (Cell.list (a36__markCaptureS_sLa x k)) ∧ (∀ (x_1 : List
 Cell), x_1 ∈ List.map syntaxC (Syntax.items (a12__markCaptureS_sLa x k)) → List.length x_1 = 5) ∧ CallOK Try.prog 59 [Ob.arr true 5 (a36__markCaptureS_sLa x k)] [SV.one (AC.ref
 0), li (n + (a11__markCaptureS_sLa x k) + 1 + 1 + 1 + (a14__markCaptureS_sLa x k))] [Ob.arr true 5 (a20__markCaptureS_sLa x n k)] (AV.sv (li (a23__markCaptureS_sLa x n k))) ∧ (0 ≤
 (↑k : Int) ∧ Int.toNat (↑k : Int) < List.length (List.set (a1__markCaptureS_sLa x n k) (Int.toNat (↑k : Int)) (a13__markCaptureS_sLa x n k))) ∧ (List.set (a1__markCaptureS_sLa x n
 k) (Int.toNat (↑k : Int)) (a13__markCaptureS_sLa x n k))[Int.toNat (↑k : Int)]? = some (a13__markCaptureS_sLa x n k) ∧ List.set (List.set (a1__markCaptureS_sLa x n k) (Int.toNat
 (↑k : Int)) (a13__markCaptureS_sLa x n k)) (Int.toNat (↑k : Int)) (a8__markCaptureS_sLa x n k) = List.set (a1__markCaptureS_sLa x n k) (Int.toNat (↑k : Int)) (a8__markCaptureS_sLa
 x n k) ∧ rng IntKind.i64 (a27__markCaptureS_sLa x n k) ∧ (0 ≤ (↑k : Int) ∧ Int.toNat (↑k : Int) < List.length (a44__markCaptureS_sLa x n k)) ∧ (a44__markCaptureS_sLa x n
 k)[Int.toNat (↑k : Int)]? = some (a8__markCaptureS_sLa x n k) ∧ List.set (a44__markCaptureS_sLa x n k) (Int.toNat (↑k : Int)) (a7__markCaptureS_sLa x n k) = List.set
 (a1__markCaptureS_sLa x n k) (Int.toNat (↑k : Int)) (a7__markCaptureS_sLa x n k) ∧ rng IntKind.i64 (a30__markCaptureS_sLa x n k) ∧ (0 ≤ (↑k : Int) ∧ Int.toNat (↑k : Int) <
 List.length (a45__markCaptureS_sLa x n k)) ∧ (a45__markCaptureS_sLa x n k)[Int.toNat (↑k : Int)]? = some (a7__markCaptureS_sLa x n k) ∧ List.set (a45__markCaptureS_sLa x n k)
 (Int.toNat (↑k : Int)) (a6__markCaptureS_sLa x n k) = List.set (a1__markCaptureS_sLa x n k) (Int.toNat (↑k : Int)) (a6__markCaptureS_sLa x n k) ∧ rng IntKind.i64
 (a24__markCaptureS_sLa x n k) ∧ P_c_markText (a24__markCaptureS_sLa x n k) ∧ (0 ≤ (↑k : Int) ∧ Int.toNat (↑k : Int) < List.length (a46__markCaptureS_sLa x n k)) ∧
 (a46__markCaptureS_sLa x n k)[Int.toNat (↑k : Int)]? = some (a6__markCaptureS_sLa x n k) ∧ List.set (a46__markCaptureS_sLa x n k) (Int.toNat (↑k : Int)) (a3__markCaptureS_sLa x n
 k) = List.set (a1__markCaptureS_sLa x n k) (Int.toNat (↑k : Int)) (a3__markCaptureS_sLa x n k) ∧ rng IntKind.i64 (a26__markCaptureS_sLa x n k) ∧ (0 ≤ (↑k : Int) ∧ Int.toNat (↑k :
 Int) < List.length (a39__markCaptureS_sLa x n k)) ∧ Int.toNat (↑k : Int) < List.length (a39__markCaptureS_sLa x n k) ∧ (a39__markCaptureS_sLa x n k)[Int.toNat (↑k : Int)]? = some
 (a3__markCaptureS_sLa x n k) ∧ some (Cell.list (a37__markCaptureS_sLa x k)) = some (Cell.list (a37__markCaptureS_sLa x k)) ∧ (∀ (x_1 : List Cell), x_1 ∈ List.map intC
 (a33__markCaptureS_sLa x k) → List.length x_1 = 1) ∧ P_c_markIntS (a33__markCaptureS_sLa x k) (a26__markCaptureS_sLa x n k) ∧ (0 ≤ (↑k : Int) ∧ Int.toNat (↑k : Int) < List.length
 (a25__markCaptureS_sLa x n k)) ∧ Int.toNat (↑k : Int) < List.length (a25__markCaptureS_sLa x n k) ∧ (a25__markCaptureS_sLa x n k)[Int.toNat (↑k : Int)]? = some
 (a4__markCaptureS_sLa x n k) ∧ some (Cell.list (a32__markCaptureS_sLa x k)) = some (Cell.list (a32__markCaptureS_sLa x k)) ∧ (∀ (x_1 : List Cell), x_1 ∈ List.map syntaxC
 (Syntax.items (a15__markCaptureS_sLa x k)) → List.length x_1 = 5) ∧ CallOK Try.prog 59 [Ob.arr true 5 (a32__markCaptureS_sLa x k)] [SV.one (AC.ref 0), li (a22__markCaptureS_sLa x
 n k)] [Ob.arr true 5 (a40__markCaptureS_sLa x n k)] (AV.sv (li (a19__markCaptureS_sLa x n k))) ∧ (0 ≤ (↑k : Int) ∧ Int.toNat (↑k : Int) < List.length (a43__markCaptureS_sLa x n
 k)) ∧ Int.toNat (↑k : Int) < List.length (a43__markCaptureS_sLa x n k) ∧ (a43__markCaptureS_sLa x n k)[Int.toNat (↑k : Int)]? = some (a5__markCaptureS_sLa x n k) ∧ some (Cell.list
 (a31__markCaptureS_sLa x k)) = some (Cell.list (a31__markCaptureS_sLa x k)) ∧ (∀ (x_1 : List Cell), x_1 ∈ List.map captureC (Capture.each (a2__markCaptureS_sLa x k)) → List.length
 x_1 = 12) ∧ CallOK Try.prog 24 [Ob.arr true 12 (a31__markCaptureS_sLa x k)] [SV.one (AC.ref 0), li (a19__markCaptureS_sLa x n k)] [Ob.arr true 12 (List.map captureC (seqM mkP cP
 (Capture.each (a2__markCaptureS_sLa x k)) (a19__markCaptureS_sLa x n k)))] (AV.sv (a29__markCaptureS_sLa x n k)) ∧ rng IntKind.i64 ((↑k : Int) + 1) ∧ List.length (Capture.each x)
 - (k + 1) < List.length (Capture.each x) - k ∧ Tc_markCaptureS_sLa x n (li ((↑k : Int) + 1)) (a29__markCaptureS_sLa x n k) (Ob.arr true 12 (List.set (a43__markCaptureS_sLa x n k)
 (Int.toNat (↑k : Int)) [cI (n + (a11__markCaptureS_sLa x k)), cI (a35__markCaptureS_sLa x n k), cS (mText (a34__markCaptureS_sLa x n k)), Cell.list (a21__markCaptureS_sLa x n k),
 Cell.list (a20__markCaptureS_sLa x n k), cI (a23__markCaptureS_sLa x n k), cI (a27__markCaptureS_sLa x n k), cI (a30__markCaptureS_sLa x n k), cS (mText (a24__markCaptureS_sLa x n
 k)), Cell.list (a47__markCaptureS_sLa x n k), Cell.list (a40__markCaptureS_sLa x n k), Cell.list (List.map captureC (seqM mkP cP (Capture.each (a2__markCaptureS_sLa x k))
 (a19__markCaptureS_sLa x n k)))])) = Lc_markCaptureS_sLa x n (k + 1) ∧ Ic_markCaptureS_sLa x n (List.length (Capture.each x) - (k + 1)) (Lc_markCaptureS_sLa x n (k + 1))) ∧
 (decide ((↑k : Int) < (↑(List.length (a28__markCaptureS_sLa x n k)) : Int)) = false → True ∧ W0c_markCaptureS_sLa x n (li (n + (a11__markCaptureS_sLa x k))) (Ob.arr true 12
 (a28__markCaptureS_sLa x n k)) = W0c_markCaptureS_sLa x n (li (n + (↑(sumBy cP (Capture.each x)) : Int))) (Ob.arr true 12 (List.map captureC (seqM mkP cP (Capture.each x) n)))))
 := by kernel_rfl
theorem Sc_markCaptureS_sLa (x : Capture) (n : Int) (h0 : 0 ≤ n) (h : n + (↑(sumBy cP (Capture.each x)) : Int) ≤ 2147483647) (ih : ∀ (z : Capture), z ∈ Capture.each x → ∀ (n :
 Int), 0 ≤ n → n + (↑(sumBy cP (Capture.each z)) : Int) ≤ 2147483647 → P_c_markCaptureS z n)  : LoopSem Try.prog (loopAt Try.f24 0) (Ic_markCaptureS_sLa x n) (Yc_markCaptureS_sLa x
 n) := by
  refine LoopSem.ofHead wide fun k h => ⟨_, _, run_c_markCaptureS_sLa x n k, ?_⟩
  try delta a28__markCaptureS_sLa a11__markCaptureS_sLa a35__markCaptureS_sLa a34__markCaptureS_sLa a2__markCaptureS_sLa a12__markCaptureS_sLa a41__markCaptureS_sLa a36__markCaptureS_sLa a15__markCaptureS_sLa a33__markCaptureS_sLa a37__markCaptureS_sLa a32__markCaptureS_sLa a31__markCaptureS_sLa a9__markCaptureS_sLa a38__markCaptureS_sLa a21__markCaptureS_sLa a18__markCaptureS_sLa a1__markCaptureS_sLa a14__markCaptureS_sLa a20__markCaptureS_sLa a17__markCaptureS_sLa a23__markCaptureS_sLa a27__markCaptureS_sLa a30__markCaptureS_sLa a24__markCaptureS_sLa a3__markCaptureS_sLa a26__markCaptureS_sLa a47__markCaptureS_sLa a4__markCaptureS_sLa a22__markCaptureS_sLa a40__markCaptureS_sLa a5__markCaptureS_sLa a6__markCaptureS_sLa a7__markCaptureS_sLa a8__markCaptureS_sLa a10__markCaptureS_sLa a13__markCaptureS_sLa a16__markCaptureS_sLa a19__markCaptureS_sLa a39__markCaptureS_sLa a25__markCaptureS_sLa a29__markCaptureS_sLa a42__markCaptureS_sLa a43__markCaptureS_sLa a44__markCaptureS_sLa a45__markCaptureS_sLa a46__markCaptureS_sLa
  have g0 := sumBy_takeLe cP x.each (k + 1)
  with_reducible repeat' (first | apply And.intro | exact flatI | exact flatS | exact rowLens | exact ih | (intro; skip) | apply obsN | apply obsC | apply obA | apply obM | apply obB | apply svA | apply tupA | apply lcA | apply lcS | apply svC | apply liC | apply lbC | apply lsC | apply vIc | apply vBc | apply vSc | apply vLc | apply mapC | apply Hc_markCaptureS_sLa | apply Ec_markCaptureS_sLa | apply EW0c_markCaptureS_sLa | apply c_markText | apply c_markIntS | apply c_markSyntaxS | apply c_markSyntaxSL | apply ih)
  all_goals (try simp only [std, stdM] at *)
  all_goals (try (first | with_reducible apply c_markText | with_reducible apply c_markIntS | with_reducible apply c_markSyntaxS | with_reducible apply c_markSyntaxSL | with_reducible apply ih | (simp only [← List.map_append]; first | with_reducible apply c_markText | with_reducible apply c_markIntS | with_reducible apply c_markSyntaxS | with_reducible apply c_markSyntaxSL | with_reducible apply ih)))
  all_goals (try (first | with_reducible rfl | omega | assumption | (refine (decide_eq_true ?_).symm; assumption) | (refine (decide_eq_false ?_).symm; assumption) | (refine rowGet ?_; (first | omega | (simp only [std, stdM]; omega) | grind)) | (refine getC ?_ rfl; (first | omega | (simp only [std, stdM]; omega) | grind)) | (refine set_row ?_; (simp only [List.length_map, List.length_set, mkTo_len]; omega)) | (refine mkToRow ?_; (first | omega | (simp only [std, stdM]; omega) | grind)) | (refine mkTo_row ?_ rfl; (first | omega | (simp only [std, stdM]; omega) | grind)) | (refine mkTo_step ?_ ?_; (first | omega | (simp only [std, stdM]; omega) | grind); (first | exact mkP_C _ _ | grind [sumBy_step, getD_mem', cP_eq, mkP_C, mkTo_all, snocI, snocS, rowSnoc])) | (show (_ : St) = _; rfl) | grind [sumBy_step, getD_mem', cP_eq, mkP_C, mkTo_all, snocI, snocS, rowSnoc]))
theorem run_c_markCaptureS_s (x : Capture) (n : Int) : aexec Try.prog (Option.getD (Func.body Try.f24) Code.skip) (entry [Ob.arr true 12 (List.map captureC (Capture.each x))]
 [SV.one (AC.ref 0), li n] 109) [Orc.ghost (Ghost.sel [0] [0, 1, 5]), Orc.loop (List.length (Capture.each x) - 0) (Lc_markCaptureS_sLa x n 0) (Ic_markCaptureS_sLa x n) [(True,
 AEx.exit 0, W0c_markCaptureS_sLa x n (li (n + (↑(sumBy cP (Capture.each x)) : Int))) (Ob.arr true 12 (List.map captureC (seqM mkP cP (Capture.each x) n))), [Orc.fin []])]] (finK
 Try.prog [ResultVar.tmp 4] [Ob.arr true 12 (List.map captureC (seqM mkP cP (Capture.each x) n))] (AV.sv (li (n + (↑(sumBy cP (Capture.each x)) : Int))))) = (Tc_markCaptureS_sLa x
 n (li 0) (li n) (Ob.arr true 12 (List.map captureC (Capture.each x))) = Lc_markCaptureS_sLa x n 0 ∧ Ic_markCaptureS_sLa x n (List.length (Capture.each x) - 0) (Lc_markCaptureS_sLa
 x n 0) ∧ LoopSem Try.prog (loopAt Try.f24 0) (Ic_markCaptureS_sLa x n) (Yc_markCaptureS_sLa x n) ∧ (True → ObsEq [Ob.arr true 12 (List.map captureC (seqM mkP cP (Capture.each x)
 n))] [Ob.arr true 12 (List.map captureC (seqM mkP cP (Capture.each x) n))] ∧ AV.sv (li (n + (↑(sumBy cP (Capture.each x)) : Int))) = AV.sv (li (n + (↑(sumBy cP (Capture.each x)) :
 Int)))) ∧ True) := by kernel_rfl
theorem c_markCaptureS_s (x : Capture) (n : Int) (h0 : 0 ≤ n) (h : n + sumBy cP x.each ≤ 2147483647) (ih : ∀ z ∈ x.each, ∀ (n : Int) (h0 : 0 ≤ n) (h : n + sumBy cP z.each ≤
 2147483647), P_c_markCaptureS z n)  : P_c_markCaptureS x n := by
  refine CallOK.ofRun wide (run_c_markCaptureS_s x n) Try.call24 Try.func24 rfl rfl rfl ?_
  have gl := cP_len x.each
  with_reducible repeat' (first | apply And.intro | exact flatI | exact flatS | exact rowLens | exact ih | (intro; skip) | apply obsN | apply obsC | apply obA | apply obM | apply obB | apply svA | apply tupA | apply lcA | apply lcS | apply svC | apply liC | apply lbC | apply lsC | apply vIc | apply vBc | apply vSc | apply vLc | apply mapC | apply Hc_markCaptureS_sLa | apply Ec_markCaptureS_sLa | apply Sc_markCaptureS_sLa | apply EW0c_markCaptureS_sLa | apply c_markText | apply c_markIntS | apply c_markSyntaxS | apply c_markSyntaxSL)
  all_goals (try simp only [std, stdM] at *)
  all_goals (try (first | with_reducible apply c_markText | with_reducible apply c_markIntS | with_reducible apply c_markSyntaxS | with_reducible apply c_markSyntaxSL | with_reducible apply ih | (simp only [← List.map_append]; first | with_reducible apply c_markText | with_reducible apply c_markIntS | with_reducible apply c_markSyntaxS | with_reducible apply c_markSyntaxSL | with_reducible apply ih)))
  all_goals (try (first | with_reducible rfl | omega | assumption | (refine (decide_eq_true ?_).symm; assumption) | (refine (decide_eq_false ?_).symm; assumption) | (refine rowGet ?_; (first | omega | (simp only [std, stdM]; omega) | grind)) | (refine getC ?_ rfl; (first | omega | (simp only [std, stdM]; omega) | grind)) | (refine set_row ?_; (simp only [List.length_map, List.length_set, mkTo_len]; omega)) | (refine mkToRow ?_; (first | omega | (simp only [std, stdM]; omega) | grind)) | (refine mkTo_row ?_ rfl; (first | omega | (simp only [std, stdM]; omega) | grind)) | (refine mkTo_step ?_ ?_; (first | omega | (simp only [std, stdM]; omega) | grind); (first | grind [mkTo_all, snocI, snocS, rowSnoc])) | (show (_ : St) = _; rfl) | grind [mkTo_all, snocI, snocS, rowSnoc]))
theorem c_markCaptureS (x : Capture) : ∀ (n : Int) (h0 : 0 ≤ n) (h : n + sumBy cP x.each ≤ 2147483647), P_c_markCaptureS x n := Capture.ind (P := fun x => ∀ (n : Int) (h0 : 0 ≤ n) (h : n + sumBy cP x.each ≤ 2147483647), P_c_markCaptureS x n) (fun x ih n h0 h => c_markCaptureS_s x n h0 h ih) x
theorem c_markCaptureSL (L : List Capture) (n : Int) (h0 : 0 ≤ n) (h : n + sumBy cP L ≤ 2147483647) : P_c_markCaptureS { (default : Capture) with each := L } n := c_markCaptureS { (default : Capture) with each := L } n h0 h
end Go.Proofs.Ytegbadciefljcaa
end
section
namespace Go.Proofs.Ytegbadciefljcaa
open Go Go.Proofs.Ytegbadciefljcaa.Ab
set_option linter.unusedVariables false
set_option linter.unusedSimpArgs false
set_option maxHeartbeats 4000000
abbrev P_c_heldIntS (L : List Int) (n : Int) : Prop := CallOK Try.prog 61 [] [ll (L.map intC), li n] [] (.sv (li (n + L.length)))
def Tc_heldIntSLa (L : List Int) (n : Int) (x0 : SV) (x1 : SV) : St := St.mk (regsOf 21 [(0, AV.sv (ll (List.map intC L))), (1, AV.sv x1), (5, AV.sv x0)]) [] 0 
def Lc_heldIntSLa (L : List Int) (n : Int) (k : Nat) : St := Tc_heldIntSLa L n (li (↑k : Int)) (li (n + (↑k : Int))) 
def Ic_heldIntSLa (L : List Int) (n : Int) : Nat → St → Prop := Head (Lc_heldIntSLa L n) (fun k => k ≤ List.length L ∧ List.length L ≤ 9223372036854775807) fun k => List.length L -
 k 
def W0c_heldIntSLa (L : List Int) (n : Int) (x0 : SV) : St := St.mk (regsOf 21 [(1, AV.sv x0)]) [] 0 
def W1c_heldIntSLa (L : List Int) (n : Int) (x0 : SV) : St := St.mk (regsOf 21 [(4, AV.sv x0)]) [] 0 
def Yc_heldIntSLa (L : List Int) (n : Int) : List (Prop × AEx × St) := [(True, AEx.exit 0, W0c_heldIntSLa L n (li (n + (↑(List.length L) : Int)))), (False, AEx.ret, W1c_heldIntSLa
 L n (li (-1 : Int)))]
theorem Hc_heldIntSLa {L : List Int} {n : Int} {k : Nat} {m : Nat} (h : (fun k => k ≤ List.length L ∧ List.length L ≤ 9223372036854775807) k) (hm : (fun k => List.length L - k) k =
 m) : Ic_heldIntSLa L n m (Lc_heldIntSLa L n k) := hm ▸ Head.mk h
theorem Ec_heldIntSLa {L : List Int} {n : Int} {k : Nat} {x0 : SV} {x1 : SV} (h0 : x0 = (li (↑k : Int))) (h1 : x1 = (li (n + (↑k : Int)))) : Tc_heldIntSLa L n x0 x1 = Lc_heldIntSLa
 L n k := by
  rw [h0, h1]
  rfl
theorem EW0c_heldIntSLa {L : List Int} {n : Int} {x0 y0 : SV} (h0 : x0 = y0) : W0c_heldIntSLa L n x0 = W0c_heldIntSLa L n y0 := by rw [h0]
theorem EW1c_heldIntSLa {L : List Int} {n : Int} {x0 y0 : SV} (h0 : x0 = y0) : W1c_heldIntSLa L n x0 = W1c_heldIntSLa L n y0 := by rw [h0]
theorem run_c_heldIntSLa (L : List Int) (n : Int) (k : Nat) : aexec Try.prog (loopAt Try.f61 0) (Lc_heldIntSLa L n k) [Orc.br [Orc.cells (intC (List.getD L k default)), Orc.br
 [Orc.ghost (Ghost.sel [] [4]), Orc.out 1] [Orc.ghost (Ghost.sel [] [0, 1, 5]), Orc.goto (List.length L - (k + 1)) (Lc_heldIntSLa L n (k + 1))]] [Orc.ghost (Ghost.sel [] [1]),
 Orc.out 0]] (loopK (Ic_heldIntSLa L n) (Yc_heldIntSLa L n) (List.length L - k)) = (List.length (List.map intC L) ≤ 9223372036854775807 → (decide ((↑k : Int) < (↑(List.length
 (List.map intC L)) : Int)) = true → (0 ≤ (↑k : Int) ∧ (List.map intC L)[Int.toNat (↑k : Int)]? = some [cI (List.getD L k 0)]) ∧ (decide (List.getD L k (0 : Int) ≠ n + (↑k : Int))
 = true → False ∧ W1c_heldIntSLa L n (li (-1 : Int)) = W1c_heldIntSLa L n (li (-1 : Int))) ∧ (decide (List.getD L k (0 : Int) ≠ n + (↑k : Int)) = false → rng IntKind.i64 (n + (↑k :
 Int) + 1) ∧ rng IntKind.i64 ((↑k : Int) + 1) ∧ List.length L - (k + 1) < List.length L - k ∧ Tc_heldIntSLa L n (li ((↑k : Int) + 1)) (li (n + (↑k : Int) + 1)) = Lc_heldIntSLa L n
 (k + 1) ∧ Ic_heldIntSLa L n (List.length L - (k + 1)) (Lc_heldIntSLa L n (k + 1)))) ∧ (decide ((↑k : Int) < (↑(List.length (List.map intC L)) : Int)) = false → True ∧
 W0c_heldIntSLa L n (li (n + (↑k : Int))) = W0c_heldIntSLa L n (li (n + (↑(List.length L) : Int))))) := by kernel_rfl
theorem Sc_heldIntSLa (L : List Int) (n : Int) (h0 : 0 ≤ n) (h : n + (↑(List.length L) : Int) ≤ 2147483647) (hm : seqM mkI cOne L n = L)  : LoopSem Try.prog (loopAt Try.f61 0)
 (Ic_heldIntSLa L n) (Yc_heldIntSLa L n) := by
  refine LoopSem.ofHead wide fun k h => ⟨_, _, run_c_heldIntSLa L n k, ?_⟩
  with_reducible repeat' (first | apply And.intro | exact flatI | exact flatS | exact rowLens | (intro; skip) | apply obsN | apply obsC | apply obA | apply obM | apply obB | apply svA | apply tupA | apply lcA | apply lcS | apply svC | apply liC | apply lbC | apply lsC | apply vIc | apply vBc | apply vSc | apply vLc | apply mapC | apply Hc_heldIntSLa | apply Ec_heldIntSLa | apply EW0c_heldIntSLa | apply EW1c_heldIntSLa)
  all_goals (try simp only [std, stdM] at *)
  all_goals (try (first | with_reducible rfl | omega | assumption | (refine (decide_eq_true ?_).symm; assumption) | (refine (decide_eq_false ?_).symm; assumption) | (refine rowGet ?_; (first | omega | (simp only [std, stdM]; omega) | grind)) | (refine getC ?_ rfl; (first | omega | (simp only [std, stdM]; omega) | grind)) | (refine set_row ?_; (simp only [List.length_map, List.length_set, mkTo_len]; omega)) | (refine mkToRow ?_; (first | omega | (simp only [std, stdM]; omega) | grind)) | (refine mkTo_row ?_ rfl; (first | omega | (simp only [std, stdM]; omega) | grind)) | (refine mkTo_step ?_ ?_; (first | omega | (simp only [std, stdM]; omega) | grind); (first | grind [seqI_get hm, snocI, snocS, rowSnoc])) | (show (_ : St) = _; rfl) | grind [seqI_get hm, snocI, snocS, rowSnoc]))
theorem run_c_heldIntS (L : List Int) (n : Int) : aexec Try.prog (Option.getD (Func.body Try.f61) Code.skip) (entry [] [ll (List.map intC L), li n] 21) [Orc.ghost (Ghost.sel [] [0,
 1, 5]), Orc.loop (List.length L - 0) (Lc_heldIntSLa L n 0) (Ic_heldIntSLa L n) [(True, AEx.exit 0, W0c_heldIntSLa L n (li (n + (↑(List.length L) : Int))), [Orc.fin []]), (False,
 AEx.ret, W1c_heldIntSLa L n (li (-1 : Int)), [Orc.fin []])]] (finK Try.prog [ResultVar.tmp 4] [] (AV.sv (li (n + (↑(List.length L) : Int))))) = (Tc_heldIntSLa L n (li 0) (li n) =
 Lc_heldIntSLa L n 0 ∧ Ic_heldIntSLa L n (List.length L - 0) (Lc_heldIntSLa L n 0) ∧ LoopSem Try.prog (loopAt Try.f61 0) (Ic_heldIntSLa L n) (Yc_heldIntSLa L n) ∧ (True → ObsEq []
 [] ∧ AV.sv (li (n + (↑(List.length L) : Int))) = AV.sv (li (n + (↑(List.length L) : Int)))) ∧ (False → ObsEq [] [] ∧ AV.sv (li (-1 : Int)) = AV.sv (li (n + (↑(List.length L) :
 Int)))) ∧ True) := by kernel_rfl
theorem c_heldIntS (L : List Int) (n : Int) (h0 : 0 ≤ n) (h : n + L.length ≤ 2147483647) (hm : seqM mkI cOne L n = L)  : P_c_heldIntS L n := by
  refine CallOK.ofRun wide (run_c_heldIntS L n) Try.call61 Try.func61 rfl rfl rfl ?_
  with_reducible repeat' (first | apply And.intro | exact flatI | exact flatS | exact rowLens | (intro; skip) | apply obsN | apply obsC | apply obA | apply obM | apply obB | apply svA | apply tupA | apply lcA | apply lcS | apply svC | apply liC | apply lbC | apply lsC | apply vIc | apply vBc | apply vSc | apply vLc | apply mapC | apply Hc_heldIntSLa | apply Ec_heldIntSLa | apply Sc_heldIntSLa | apply EW0c_heldIntSLa | apply EW1c_heldIntSLa)
  all_goals (try simp only [std, stdM] at *)
  all_goals (try (first | with_reducible rfl | omega | assumption | (refine (decide_eq_true ?_).symm; assumption) | (refine (decide_eq_false ?_).symm; assumption) | (refine rowGet ?_; (first | omega | (simp only [std, stdM]; omega) | grind)) | (refine getC ?_ rfl; (first | omega | (simp only [std, stdM]; omega) | grind)) | (refine set_row ?_; (simp only [List.length_map, List.length_set, mkTo_len]; omega)) | (refine mkToRow ?_; (first | omega | (simp only [std, stdM]; omega) | grind)) | (refine mkTo_row ?_ rfl; (first | omega | (simp only [std, stdM]; omega) | grind)) | (refine mkTo_step ?_ ?_; (first | omega | (simp only [std, stdM]; omega) | grind); (first | grind [snocI, snocS, rowSnoc])) | (show (_ : St) = _; rfl) | grind [snocI, snocS, rowSnoc]))
abbrev P_c_heldSyntaxS (x : Syntax) (n : Int) : Prop := CallOK Try.prog 62 [] [ll (x.items.map syntaxC), li n] [] (.sv (li (n + sumBy cY x.items)))
def Tc_heldSyntaxS_sLa (x : Syntax) (n : Int) (x0 : SV) (x1 : SV) : St := St.mk (regsOf 59 [(0, AV.sv (ll (List.map syntaxC (Syntax.items x)))), (1, AV.sv x1), (5, AV.sv x0)]) [] 0
def Lc_heldSyntaxS_sLa (x : Syntax) (n : Int) (k : Nat) : St := Tc_heldSyntaxS_sLa x n (li (↑k : Int)) (li (n + (↑(sumBy cY (List.take k (Syntax.items x))) : Int))) 
def Ic_heldSyntaxS_sLa (x : Syntax) (n : Int) : Nat → St → Prop := Head (Lc_heldSyntaxS_sLa x n) (fun k => k ≤ List.length (Syntax.items x) ∧ List.length (Syntax.items x) ≤
 9223372036854775807) fun k => List.length (Syntax.items x) - k 
def W0c_heldSyntaxS_sLa (x : Syntax) (n : Int) (x0 : SV) : St := St.mk (regsOf 59 [(1, AV.sv x0)]) [] 0 
def W1c_heldSyntaxS_sLa (x : Syntax) (n : Int) (x0 : SV) : St := St.mk (regsOf 59 [(4, AV.sv x0)]) [] 0 
def Yc_heldSyntaxS_sLa (x : Syntax) (n : Int) : List (Prop × AEx × St) := [(True, AEx.exit 0, W0c_heldSyntaxS_sLa x n (li (n + (↑(sumBy cY (Syntax.items x)) : Int)))), (False,
 AEx.ret, W1c_heldSyntaxS_sLa x n (li (-1 : Int)))]
theorem Hc_heldSyntaxS_sLa {x : Syntax} {n : Int} {k : Nat} {m : Nat} (h : (fun k => k ≤ List.length (Syntax.items x) ∧ List.length (Syntax.items x) ≤ 9223372036854775807) k) (hm :
 (fun k => List.length (Syntax.items x) - k) k = m) : Ic_heldSyntaxS_sLa x n m (Lc_heldSyntaxS_sLa x n k) := hm ▸ Head.mk h
theorem Ec_heldSyntaxS_sLa {x : Syntax} {n : Int} {k : Nat} {x0 : SV} {x1 : SV} (h0 : x0 = (li (↑k : Int))) (h1 : x1 = (li (n + (↑(sumBy cY (List.take k (Syntax.items x))) :
 Int)))) : Tc_heldSyntaxS_sLa x n x0 x1 = Lc_heldSyntaxS_sLa x n k := by
  rw [h0, h1]
  rfl
theorem EW0c_heldSyntaxS_sLa {x : Syntax} {n : Int} {x0 y0 : SV} (h0 : x0 = y0) : W0c_heldSyntaxS_sLa x n x0 = W0c_heldSyntaxS_sLa x n y0 := by rw [h0]
theorem EW1c_heldSyntaxS_sLa {x : Syntax} {n : Int} {x0 y0 : SV} (h0 : x0 = y0) : W1c_heldSyntaxS_sLa x n x0 = W1c_heldSyntaxS_sLa x n y0 := by rw [h0]
abbrev a1__heldSyntaxS_sLa (x : Syntax) (k : Nat) := (↑(sumBy cY (List.take k (Syntax.items x))) : Int)
abbrev a2__heldSyntaxS_sLa (x : Syntax) (k : Nat) := (0 ≤ (↑k : Int) ∧ (List.map syntaxC (Syntax.items x))[Int.toNat (↑k : Int)]? = some (syntaxF (List.getD (Syntax.items x) k
 default)))
abbrev a3__heldSyntaxS_sLa (x : Syntax) (k : Nat) := (↑(List.length (Syntax.scopes (List.getD (Syntax.items x) k default))) : Int)
abbrev a4__heldSyntaxS_sLa (x : Syntax) (n : Int) (k : Nat) := (li (n + (a1__heldSyntaxS_sLa x k) + 1 + 1 + 1 + (a3__heldSyntaxS_sLa x k) + (↑(sumBy cY (Syntax.items (List.getD
 (Syntax.items x) k default))) : Int)))
theorem run_c_heldSyntaxS_sLa (x : Syntax) (n : Int) (k : Nat) : aexec Try.prog (loopAt Try.f62 0) (Lc_heldSyntaxS_sLa x n k) [Orc.br [Orc.cells (syntaxF (List.getD (Syntax.items
 x) k default)), Orc.br [Orc.ghost (Ghost.sel [] [4]), Orc.out 1] [Orc.cells (syntaxF (List.getD (Syntax.items x) k default)), Orc.br [Orc.ghost (Ghost.sel [] [4]), Orc.out 1]
 [Orc.draw [], Orc.cells (syntaxF (List.getD (Syntax.items x) k default)), Orc.call [Mode.rd] [] (AV.sv (ls (mText (n + (a1__heldSyntaxS_sLa x k) + 1 + 1)))), Orc.br [Orc.ghost
 (Ghost.sel [] [4]), Orc.out 1] [Orc.cells (syntaxF (List.getD (Syntax.items x) k default)), Orc.call [Mode.rd, Mode.rd] [] (AV.sv (li (n + (a1__heldSyntaxS_sLa x k) + 1 + 1 + 1 +
 (a3__heldSyntaxS_sLa x k)))), Orc.br [Orc.ghost (Ghost.sel [] [4]), Orc.out 1] [Orc.cells (syntaxF (List.getD (Syntax.items x) k default)), Orc.call [Mode.rd, Mode.rd] [] (AV.sv
 (a4__heldSyntaxS_sLa x n k)), Orc.br [Orc.ghost (Ghost.sel [] [4]), Orc.out 1] [Orc.ghost (Ghost.sel [] [0, 1, 5]), Orc.goto (List.length (Syntax.items x) - (k + 1))
 (Lc_heldSyntaxS_sLa x n (k + 1))]]]]]] [Orc.ghost (Ghost.sel [] [1]), Orc.out 0]] (loopK (Ic_heldSyntaxS_sLa x n) (Yc_heldSyntaxS_sLa x n) (List.length (Syntax.items x) - k)) =
 (List.length (List.map syntaxC (Syntax.items x)) ≤ 9223372036854775807 → (decide ((↑k : Int) < (↑(List.length (List.map syntaxC (Syntax.items x))) : Int)) = true →
 (a2__heldSyntaxS_sLa x k) ∧ (decide (Syntax.kind (List.getD (Syntax.items x) k default) ≠ n + (a1__heldSyntaxS_sLa x k)) = true → False ∧ W1c_heldSyntaxS_sLa x n (li (-1 : Int)) =
 W1c_heldSyntaxS_sLa x n (li (-1 : Int))) ∧ (decide (Syntax.kind (List.getD (Syntax.items x) k default) ≠ n + (a1__heldSyntaxS_sLa x k)) = false → rng IntKind.i64 (n +
 (a1__heldSyntaxS_sLa x k) + 1) ∧ (a2__heldSyntaxS_sLa x k) ∧ (decide (Syntax.number (List.getD (Syntax.items x) k default) ≠ n + (a1__heldSyntaxS_sLa x k) + 1) = true → False ∧
 W1c_heldSyntaxS_sLa x n (li (-1 : Int)) = W1c_heldSyntaxS_sLa x n (li (-1 : Int))) ∧ (decide (Syntax.number (List.getD (Syntax.items x) k default) ≠ n + (a1__heldSyntaxS_sLa x k)
 + 1) = false → rng IntKind.i64 (n + (a1__heldSyntaxS_sLa x k) + 1 + 1) ∧ (a2__heldSyntaxS_sLa x k) ∧ P_c_markText (n + (a1__heldSyntaxS_sLa x k) + 1 + 1) ∧ (decide (Array.toList
 (ByteArray.data (Syntax.text (List.getD (Syntax.items x) k default))) ≠ Array.toList (ByteArray.data (mText (n + (a1__heldSyntaxS_sLa x k) + 1 + 1)))) = true → False ∧
 W1c_heldSyntaxS_sLa x n (li (-1 : Int)) = W1c_heldSyntaxS_sLa x n (li (-1 : Int))) ∧ (decide (Array.toList (ByteArray.data (Syntax.text (List.getD (Syntax.items x) k default))) ≠
 Array.toList (ByteArray.data (mText (n + (a1__heldSyntaxS_sLa x k) + 1 + 1)))) = false → rng IntKind.i64 (n + (a1__heldSyntaxS_sLa x k) + 1 + 1 + 1) ∧ (a2__heldSyntaxS_sLa x k) ∧
 P_c_heldIntS (Syntax.scopes (List.getD (Syntax.items x) k default)) (n + (a1__heldSyntaxS_sLa x k) + 1 + 1 + 1) ∧ (decide (n + (a1__heldSyntaxS_sLa x k) + 1 + 1 + 1 +
 (a3__heldSyntaxS_sLa x k) < 0) = true → False ∧ W1c_heldSyntaxS_sLa x n (li (-1 : Int)) = W1c_heldSyntaxS_sLa x n (li (-1 : Int))) ∧ (decide (n + (a1__heldSyntaxS_sLa x k) + 1 + 1
 + 1 + (a3__heldSyntaxS_sLa x k) < 0) = false → (a2__heldSyntaxS_sLa x k) ∧ CallOK Try.prog 62 [] [ll (List.map syntaxC (Syntax.items (List.getD (Syntax.items x) k default))), li
 (n + (a1__heldSyntaxS_sLa x k) + 1 + 1 + 1 + (a3__heldSyntaxS_sLa x k))] [] (AV.sv (a4__heldSyntaxS_sLa x n k)) ∧ (decide (n + (a1__heldSyntaxS_sLa x k) + 1 + 1 + 1 +
 (a3__heldSyntaxS_sLa x k) + (↑(sumBy cY (Syntax.items (List.getD (Syntax.items x) k default))) : Int) < 0) = true → False ∧ W1c_heldSyntaxS_sLa x n (li (-1 : Int)) =
 W1c_heldSyntaxS_sLa x n (li (-1 : Int))) ∧ (decide (n + (a1__heldSyntaxS_sLa x k) + 1 + 1 + 1 + (a3__heldSyntaxS_sLa x k) + (↑(sumBy cY (Syntax.items (List.getD (Syntax.items x) k
 default))) : Int) < 0) = false → rng IntKind.i64 ((↑k : Int) + 1) ∧ List.length (Syntax.items x) - (k + 1) < List.length (Syntax.items x) - k ∧ Tc_heldSyntaxS_sLa x n (li ((↑k :
 Int) + 1)) (a4__heldSyntaxS_sLa x n k) = Lc_heldSyntaxS_sLa x n (k + 1) ∧ Ic_heldSyntaxS_sLa x n (List.length (Syntax.items x) - (k + 1)) (Lc_heldSyntaxS_sLa x n (k + 1)))))))) ∧
 (decide ((↑k : Int) < (↑(List.length (List.map syntaxC (Syntax.items x))) : Int)) = false → True ∧ W0c_heldSyntaxS_sLa x n (li (n + (a1__heldSyntaxS_sLa x k))) =
 W0c_heldSyntaxS_sLa x n (li (n + (↑(sumBy cY (Syntax.items x)) : Int))))) := by kernel_rfl
theorem Sc_heldSyntaxS_sLa (x : Syntax) (n : Int) (h0 : 0 ≤ n) (h : n + (↑(sumBy cY (Syntax.items x)) : Int) ≤ 2147483647) (hm : seqM mkY cY (Syntax.items x) n = Syntax.items x)
 (ih : ∀ (z : Syntax), z ∈ Syntax.items x → ∀ (n : Int), 0 ≤ n → n + (↑(sumBy cY (Syntax.items z)) : Int) ≤ 2147483647 → seqM mkY cY (Syntax.items z) n = Syntax.items z →
 P_c_heldSyntaxS z n)  : LoopSem Try.prog (loopAt Try.f62 0) (Ic_heldSyntaxS_sLa x n) (Yc_heldSyntaxS_sLa x n) := by
  refine LoopSem.ofHead wide fun k h => ⟨_, _, run_c_heldSyntaxS_sLa x n k, ?_⟩
  try delta a1__heldSyntaxS_sLa a2__heldSyntaxS_sLa a3__heldSyntaxS_sLa a4__heldSyntaxS_sLa
  have g0 := sumBy_takeLe cY x.items (k + 1)
  have g1 := fun hk : k < x.items.length => mkY_fix (seqM_get hm hk)
  with_reducible repeat' (first | apply And.intro | exact flatI | exact flatS | exact rowLens | exact ih | (intro; skip) | apply obsN | apply obsC | apply obA | apply obM | apply obB | apply svA | apply tupA | apply lcA | apply lcS | apply svC | apply liC | apply lbC | apply lsC | apply vIc | apply vBc | apply vSc | apply vLc | apply mapC | apply Hc_heldSyntaxS_sLa | apply Ec_heldSyntaxS_sLa | apply EW0c_heldSyntaxS_sLa | apply EW1c_heldSyntaxS_sLa | apply c_markText | apply c_heldIntS | apply ih)
  all_goals (try simp only [std, stdM] at *)
  all_goals (try (first | with_reducible apply c_markText | with_reducible apply c_heldIntS | with_reducible apply ih | (simp only [← List.map_append]; first | with_reducible apply c_markText | with_reducible apply c_heldIntS | with_reducible apply ih)))
  all_goals (try (first | with_reducible rfl | omega | assumption | (refine (decide_eq_true ?_).symm; assumption) | (refine (decide_eq_false ?_).symm; assumption) | (refine rowGet ?_; (first | omega | (simp only [std, stdM]; omega) | grind)) | (refine getC ?_ rfl; (first | omega | (simp only [std, stdM]; omega) | grind)) | (refine set_row ?_; (simp only [List.length_map, List.length_set, mkTo_len]; omega)) | (refine mkToRow ?_; (first | omega | (simp only [std, stdM]; omega) | grind)) | (refine mkTo_row ?_ rfl; (first | omega | (simp only [std, stdM]; omega) | grind)) | (refine mkTo_step ?_ ?_; (first | omega | (simp only [std, stdM]; omega) | grind); (first | grind [sumBy_step, getD_mem', cY_eq, snocI, snocS, rowSnoc])) | (show (_ : St) = _; rfl) | grind [sumBy_step, getD_mem', cY_eq, snocI, snocS, rowSnoc]))
theorem run_c_heldSyntaxS_s (x : Syntax) (n : Int) : aexec Try.prog (Option.getD (Func.body Try.f62) Code.skip) (entry [] [ll (List.map syntaxC (Syntax.items x)), li n] 59)
 [Orc.ghost (Ghost.sel [] [0, 1, 5]), Orc.loop (List.length (Syntax.items x) - 0) (Lc_heldSyntaxS_sLa x n 0) (Ic_heldSyntaxS_sLa x n) [(True, AEx.exit 0, W0c_heldSyntaxS_sLa x n
 (li (n + (↑(sumBy cY (Syntax.items x)) : Int))), [Orc.fin []]), (False, AEx.ret, W1c_heldSyntaxS_sLa x n (li (-1 : Int)), [Orc.fin []])]] (finK Try.prog [ResultVar.tmp 4] []
 (AV.sv (li (n + (↑(sumBy cY (Syntax.items x)) : Int))))) = (Tc_heldSyntaxS_sLa x n (li 0) (li n) = Lc_heldSyntaxS_sLa x n 0 ∧ Ic_heldSyntaxS_sLa x n (List.length (Syntax.items x)
 - 0) (Lc_heldSyntaxS_sLa x n 0) ∧ LoopSem Try.prog (loopAt Try.f62 0) (Ic_heldSyntaxS_sLa x n) (Yc_heldSyntaxS_sLa x n) ∧ (True → ObsEq [] [] ∧ AV.sv (li (n + (↑(sumBy cY
 (Syntax.items x)) : Int))) = AV.sv (li (n + (↑(sumBy cY (Syntax.items x)) : Int)))) ∧ (False → ObsEq [] [] ∧ AV.sv (li (-1 : Int)) = AV.sv (li (n + (↑(sumBy cY (Syntax.items x)) :
 Int)))) ∧ True) := by kernel_rfl
theorem c_heldSyntaxS_s (x : Syntax) (n : Int) (h0 : 0 ≤ n) (h : n + sumBy cY x.items ≤ 2147483647) (hm : seqM mkY cY x.items n = x.items) (ih : ∀ z ∈ x.items, ∀ (n : Int) (h0 : 0
 ≤ n) (h : n + sumBy cY z.items ≤ 2147483647) (hm : seqM mkY cY z.items n = z.items), P_c_heldSyntaxS z n)  : P_c_heldSyntaxS x n := by
  refine CallOK.ofRun wide (run_c_heldSyntaxS_s x n) Try.call62 Try.func62 rfl rfl rfl ?_
  have gl := cY_len x.items
  with_reducible repeat' (first | apply And.intro | exact flatI | exact flatS | exact rowLens | exact ih | (intro; skip) | apply obsN | apply obsC | apply obA | apply obM | apply obB | apply svA | apply tupA | apply lcA | apply lcS | apply svC | apply liC | apply lbC | apply lsC | apply vIc | apply vBc | apply vSc | apply vLc | apply mapC | apply Hc_heldSyntaxS_sLa | apply Ec_heldSyntaxS_sLa | apply Sc_heldSyntaxS_sLa | apply EW0c_heldSyntaxS_sLa | apply EW1c_heldSyntaxS_sLa | apply c_markText | apply c_heldIntS)
  all_goals (try simp only [std, stdM] at *)
  all_goals (try (first | with_reducible apply c_markText | with_reducible apply c_heldIntS | with_reducible apply ih | (simp only [← List.map_append]; first | with_reducible apply c_markText | with_reducible apply c_heldIntS | with_reducible apply ih)))
  all_goals (try (first | with_reducible rfl | omega | assumption | (refine (decide_eq_true ?_).symm; assumption) | (refine (decide_eq_false ?_).symm; assumption) | (refine rowGet ?_; (first | omega | (simp only [std, stdM]; omega) | grind)) | (refine getC ?_ rfl; (first | omega | (simp only [std, stdM]; omega) | grind)) | (refine set_row ?_; (simp only [List.length_map, List.length_set, mkTo_len]; omega)) | (refine mkToRow ?_; (first | omega | (simp only [std, stdM]; omega) | grind)) | (refine mkTo_row ?_ rfl; (first | omega | (simp only [std, stdM]; omega) | grind)) | (refine mkTo_step ?_ ?_; (first | omega | (simp only [std, stdM]; omega) | grind); (first | grind [mkTo_all, snocI, snocS, rowSnoc])) | (show (_ : St) = _; rfl) | grind [mkTo_all, snocI, snocS, rowSnoc]))
theorem c_heldSyntaxS (x : Syntax) : ∀ (n : Int) (h0 : 0 ≤ n) (h : n + sumBy cY x.items ≤ 2147483647) (hm : seqM mkY cY x.items n = x.items), P_c_heldSyntaxS x n := Syntax.ind (P := fun x => ∀ (n : Int) (h0 : 0 ≤ n) (h : n + sumBy cY x.items ≤ 2147483647) (hm : seqM mkY cY x.items n = x.items), P_c_heldSyntaxS x n) (fun x ih n h0 h hm => c_heldSyntaxS_s x n h0 h hm ih) x
theorem c_heldSyntaxSL (L : List Syntax) (n : Int) (h0 : 0 ≤ n) (h : n + sumBy cY L ≤ 2147483647) (hm : seqM mkY cY L n = L) : P_c_heldSyntaxS { (default : Syntax) with items := L } n := c_heldSyntaxS { (default : Syntax) with items := L } n h0 h hm
abbrev P_c_heldSyntax (x : Syntax) (n : Int) : Prop := CallOK Try.prog 25 [] [.agg [vI x.kind, vI x.number, vS x.text, vL (x.scopes.map intC), vL (x.items.map syntaxC)], li n] [] (.sv (li (n + x.scopes.length + sumBy cY x.items)))
theorem run_c_heldSyntax (x : Syntax) (n : Int) : aexec Try.prog (Option.getD (Func.body Try.f25) Code.skip) (entry [] [SV.agg [vI (Syntax.kind x), vI (Syntax.number x), vS
 (Syntax.text x), vL (List.map intC (Syntax.scopes x)), vL (List.map syntaxC (Syntax.items x))], li n] 18) [Orc.call [Mode.rd, Mode.rd] [] (AV.sv (li (n + (↑(List.length
 (Syntax.scopes x)) : Int)))), Orc.br [Orc.fin []] [Orc.call [Mode.rd, Mode.rd] [] (AV.sv (li (n + (↑(List.length (Syntax.scopes x)) : Int) + (↑(sumBy cY (Syntax.items x)) :
 Int)))), Orc.br [Orc.fin []] [Orc.fin []]]] (finK Try.prog [ResultVar.tmp 4] [] (AV.sv (li (n + (↑(List.length (Syntax.scopes x)) : Int) + (↑(sumBy cY (Syntax.items x)) : Int)))))
 = (P_c_heldIntS (Syntax.scopes x) n ∧ (decide (n + (↑(List.length (Syntax.scopes x)) : Int) < 0) = true → ObsEq [] [] ∧ AV.sv (li (-1 : Int)) = AV.sv (li (n + (↑(List.length
 (Syntax.scopes x)) : Int) + (↑(sumBy cY (Syntax.items x)) : Int)))) ∧ (decide (n + (↑(List.length (Syntax.scopes x)) : Int) < 0) = false → CallOK Try.prog 62 [] [ll (List.map
 syntaxC (Syntax.items x)), li (n + (↑(List.length (Syntax.scopes x)) : Int))] [] (AV.sv (li (n + (↑(List.length (Syntax.scopes x)) : Int) + (↑(sumBy cY (Syntax.items x)) : Int))))
 ∧ (decide (n + (↑(List.length (Syntax.scopes x)) : Int) + (↑(sumBy cY (Syntax.items x)) : Int) < 0) = true → ObsEq [] [] ∧ AV.sv (li (-1 : Int)) = AV.sv (li (n + (↑(List.length
 (Syntax.scopes x)) : Int) + (↑(sumBy cY (Syntax.items x)) : Int)))) ∧ (decide (n + (↑(List.length (Syntax.scopes x)) : Int) + (↑(sumBy cY (Syntax.items x)) : Int) < 0) = false →
 ObsEq [] [] ∧ AV.sv (li (n + (↑(List.length (Syntax.scopes x)) : Int) + (↑(sumBy cY (Syntax.items x)) : Int))) = AV.sv (li (n + (↑(List.length (Syntax.scopes x)) : Int) + (↑(sumBy
 cY (Syntax.items x)) : Int)))))) := by kernel_rfl
theorem c_heldSyntax (x : Syntax) (n : Int) (h0 : 0 ≤ n) (h : n + (x.scopes.length + sumBy cY x.items : Nat) ≤ 2147483647) (hm0 : seqM mkI cOne x.scopes (n) = x.scopes) (hm1 : seqM
 mkY cY x.items (n + x.scopes.length) = x.items)  : P_c_heldSyntax x n := by
  refine CallOK.ofRun wide (run_c_heldSyntax x n) Try.call25 Try.func25 rfl rfl rfl ?_
  with_reducible repeat' (first | apply And.intro | exact flatI | exact flatS | exact rowLens | (intro; skip) | apply obsN | apply obsC | apply obA | apply obM | apply obB | apply svA | apply tupA | apply lcA | apply lcS | apply svC | apply liC | apply lbC | apply lsC | apply vIc | apply vBc | apply vSc | apply vLc | apply mapC | apply c_heldIntS | apply c_heldSyntaxS | apply c_heldSyntaxSL)
  all_goals (try simp only [std, stdM] at *)
  all_goals (try (first | with_reducible apply c_heldIntS | with_reducible apply c_heldSyntaxS | with_reducible apply c_heldSyntaxSL | (simp only [← List.map_append]; first | with_reducible apply c_heldIntS | with_reducible apply c_heldSyntaxS | with_reducible apply c_heldSyntaxSL)))
  all_goals (try (first | with_reducible rfl | omega | assumption | (refine (decide_eq_true ?_).symm; assumption) | (refine (decide_eq_false ?_).symm; assumption) | (refine rowGet ?_; (first | omega | (simp only [std, stdM]; omega) | grind)) | (refine getC ?_ rfl; (first | omega | (simp only [std, stdM]; omega) | grind)) | (refine set_row ?_; (simp only [List.length_map, List.length_set, mkTo_len]; omega)) | (refine mkToRow ?_; (first | omega | (simp only [std, stdM]; omega) | grind)) | (refine mkTo_row ?_ rfl; (first | omega | (simp only [std, stdM]; omega) | grind)) | (refine mkTo_step ?_ ?_; (first | omega | (simp only [std, stdM]; omega) | grind); (first | grind [snocI, snocS, rowSnoc])) | (show (_ : St) = _; rfl) | grind [snocI, snocS, rowSnoc]))
end Go.Proofs.Ytegbadciefljcaa
end
