/- Part 2 of the proof: The program's Instantiate returns what the reference's returns, for all arguments. No condition. -/
import Derived.Test.YtegbadciefljcaaInsC1
section
namespace Go.Proofs.Ytegbadciefljcaa
open Go Go.Proofs.Ytegbadciefljcaa.Ab
set_option linter.unusedVariables false
set_option linter.unusedSimpArgs false
set_option maxHeartbeats 4000000
mutual
/-- the names of a form, each once -/
def idsY : Syntax → List Syntax → List Syntax
  | ⟨k, n, t, s, l⟩, o => idsYs l (if k = 1 ∧ hasI o ⟨k, n, t, s, l⟩ = false then o ++ [⟨k, n, t, s, l⟩] else o)
def idsYs : List Syntax → List Syntax → List Syntax
  | [], o => o
  | x :: r, o => idsYs r (idsY x o)
end
theorem idsYs_eq : ∀ (l : List Syntax) (o : List Syntax), idsYs l o = l.foldl (fun o x => idsY x o) o
  | [], _ => by rw [idsYs]; rfl
  | x :: r, o => by rw [idsYs, idsYs_eq r]; rfl
def ids0 (s : Syntax) (o : List Syntax) : List Syntax := if s.kind = 1 ∧ hasI o s = false then o ++ [s] else o
theorem idsY_eq (s : Syntax) (o : List Syntax) : idsY s o = s.items.foldl (fun o x => idsY x o) (ids0 s o) := by cases s; simp only [idsY, idsYs_eq, ids0]
theorem ids0_len (s : Syntax) (o : List Syntax) : (ids0 s o).length ≤ o.length + 1 := by unfold ids0; split <;> simp
theorem idsF_len : ∀ (L : List Syntax), (∀ x ∈ L, ∀ o, (idsY x o).length ≤ o.length + sizeY x) → ∀ o, (L.foldl (fun o x => idsY x o) o).length ≤ o.length + sumBy sizeY L
  | [], _, o => by simp [sumBy]
  | x :: r, h, o => by
    have h1 := h x List.mem_cons_self o
    have h2 := idsF_len r (fun y hy => h y (List.mem_cons_of_mem _ hy)) (idsY x o)
    simp only [List.foldl_cons, sumBy]; omega
theorem idsY_len : ∀ (s : Syntax) (o : List Syntax), (idsY s o).length ≤ o.length + sizeY s := by
  refine Syntax.ind fun s ih o => ?_
  have h1 := idsF_len s.items ih (ids0 s o)
  have h2 := ids0_len s o
  rw [idsY_eq, sizeY_eq]; omega
abbrev P_c_sIds (s : Syntax) (o : List Syntax) : Prop := CallOK Try.prog 113 [.arr true 5 (o.map syntaxC)] [syntaxA s, .one (.ref 0)] [.dead, .arr true 5 ((idsY s o).map syntaxC)] (.sv (.one (.ref 1)))
def Tc_sIds_sLa (s : Syntax) (o : List Syntax) (x0 : SV) (x1 : Ob) : St := St.mk (regsOf 33 [(1, AV.sv (SV.one (AC.ref 1))), (22, AV.sv (ll (List.map syntaxC (Syntax.items s)))),
 (23, AV.sv (li (↑(List.length (List.map syntaxC (Syntax.items s))) : Int))), (24, AV.sv x0)]) [Ob.dead, x1] 1 
def Lc_sIds_sLa (s : Syntax) (o : List Syntax) (k : Nat) : St := Tc_sIds_sLa s o (li (↑k : Int)) (Ob.arr true 5 (List.map syntaxC (List.foldl (fun o x => idsY x o) (ids0 s o)
 (List.take k (Syntax.items s))))) 
def Ic_sIds_sLa (s : Syntax) (o : List Syntax) : Nat → St → Prop := Head (Lc_sIds_sLa s o) (fun k => k ≤ List.length (Syntax.items s) ∧ List.length (Syntax.items s) ≤
 9223372036854775807) fun k => List.length (Syntax.items s) - k 
def W0c_sIds_sLa (s : Syntax) (o : List Syntax) (x0 : Ob) : St := St.mk (regsOf 33 [(1, AV.sv (SV.one (AC.ref 1)))]) [Ob.dead, x0] 1 
def Yc_sIds_sLa (s : Syntax) (o : List Syntax) : List (Prop × AEx × St) := [(True, AEx.exit 0, W0c_sIds_sLa s o (Ob.arr true 5 (List.map syntaxC (idsY s o))))]
theorem Hc_sIds_sLa {s : Syntax} {o : List Syntax} {k : Nat} {m : Nat} (h : (fun k => k ≤ List.length (Syntax.items s) ∧ List.length (Syntax.items s) ≤ 9223372036854775807) k) (hm
 : (fun k => List.length (Syntax.items s) - k) k = m) : Ic_sIds_sLa s o m (Lc_sIds_sLa s o k) := hm ▸ Head.mk h
theorem Ec_sIds_sLa {s : Syntax} {o : List Syntax} {k : Nat} {x0 : SV} {x1 : Ob} (h0 : x0 = (li (↑k : Int))) (h1 : x1 = (Ob.arr true 5 (List.map syntaxC (List.foldl (fun o x =>
 idsY x o) (ids0 s o) (List.take k (Syntax.items s)))))) : Tc_sIds_sLa s o x0 x1 = Lc_sIds_sLa s o k := by
  rw [h0, h1]
  rfl
theorem EW0c_sIds_sLa {s : Syntax} {o : List Syntax} {x0 y0 : Ob} (h0 : x0 = y0) : W0c_sIds_sLa s o x0 = W0c_sIds_sLa s o y0 := by rw [h0]
theorem run_c_sIds_sLa (s : Syntax) (o : List Syntax) (k : Nat) : aexec Try.prog (loopAt Try.f113 0) (Lc_sIds_sLa s o k) [Orc.br [Orc.cells (syntaxF (List.getD (Syntax.items s) k
 default)), Orc.call [Mode.rd, Mode.own true 5] [Ob.dead, Ob.arr true 5 (List.map syntaxC (idsY (List.getD (Syntax.items s) k default) (List.foldl (fun o x => idsY x o) (ids0 s o)
 (List.take k (Syntax.items s)))))] (AV.sv (SV.one (AC.ref 1))), Orc.ghost (Ghost.sel [0, 4] [1, 22, 23, 24]), Orc.goto (List.length (Syntax.items s) - (k + 1)) (Lc_sIds_sLa s o (k
 + 1))] [Orc.ghost (Ghost.sel [0, 1] [1]), Orc.out 0]] (loopK (Ic_sIds_sLa s o) (Yc_sIds_sLa s o) (List.length (Syntax.items s) - k)) = ((decide ((↑k : Int) < (↑(List.length
 (List.map syntaxC (Syntax.items s))) : Int)) = true → (0 ≤ (↑k : Int) ∧ (List.map syntaxC (Syntax.items s))[Int.toNat (↑k : Int)]? = some (syntaxF (List.getD (Syntax.items s) k
 default))) ∧ P_c_sIds (List.getD (Syntax.items s) k default) (List.foldl (fun o x => idsY x o) (ids0 s o) (List.take k (Syntax.items s))) ∧ rng IntKind.i64 ((↑k : Int) + 1) ∧
 List.length (Syntax.items s) - (k + 1) < List.length (Syntax.items s) - k ∧ Tc_sIds_sLa s o (li ((↑k : Int) + 1)) (Ob.arr true 5 (List.map syntaxC (idsY (List.getD (Syntax.items
 s) k default) (List.foldl (fun o x => idsY x o) (ids0 s o) (List.take k (Syntax.items s)))))) = Lc_sIds_sLa s o (k + 1) ∧ Ic_sIds_sLa s o (List.length (Syntax.items s) - (k + 1))
 (Lc_sIds_sLa s o (k + 1))) ∧ (decide ((↑k : Int) < (↑(List.length (List.map syntaxC (Syntax.items s))) : Int)) = false → True ∧ W0c_sIds_sLa s o (Ob.arr true 5 (List.map syntaxC
 (List.foldl (fun o x => idsY x o) (ids0 s o) (List.take k (Syntax.items s))))) = W0c_sIds_sLa s o (Ob.arr true 5 (List.map syntaxC (idsY s o))))) := by kernel_rfl
theorem Sc_sIds_sLa (s : Syntax) (o : List Syntax) (h : List.length o + sizeY s ≤ 2147483647 ∧ wY s ≤ 1048576) (ih : ∀ (z : Syntax), z ∈ Syntax.items s → ∀ (o : List Syntax),
 List.length o + sizeY z ≤ 2147483647 ∧ wY z ≤ 1048576 → P_c_sIds z o)  : LoopSem Try.prog (loopAt Try.f113 0) (Ic_sIds_sLa s o) (Yc_sIds_sLa s o) := by
  refine LoopSem.ofHead wide fun k h => ⟨_, _, run_c_sIds_sLa s o k, ?_⟩
  have g1 := idsF_len (s.items.take k) (fun x _ o => idsY_len x o) (ids0 s o)
  have g2 := ids0_len s o
  have g3 := @size_item s k
  have g4 := sizeY_eq s
  with_reducible repeat' (first | apply And.intro | exact flatI | exact flatS | exact rowLens | exact ih | (intro; skip) | apply obsN | apply obsC | apply obA | apply obM | apply obB | apply svA | apply tupA | apply lcA | apply lcS | apply svC | apply liC | apply lbC | apply lsC | apply vIc | apply vBc | apply vSc | apply vLc | apply mapC | apply Hc_sIds_sLa | apply Ec_sIds_sLa | apply EW0c_sIds_sLa | apply c_sHasI | apply c_sCopyY | apply ih)
  all_goals (try simp only [std] at *)
  all_goals (try (first | with_reducible apply c_sHasI | with_reducible apply c_sCopyY | with_reducible apply ih | (simp only [← List.map_append]; first | with_reducible apply c_sHasI | with_reducible apply c_sCopyY | with_reducible apply ih)))
  all_goals (try (first | with_reducible rfl | omega | assumption | (refine (decide_eq_true ?_).symm; assumption) | (refine (decide_eq_false ?_).symm; assumption) | (refine rowGet ?_; (first | omega | (simp only [std]; omega) | grind)) | (refine getC ?_ rfl; (first | omega | (simp only [std]; omega) | grind)) | (show (_ : St) = _; rfl) | grind [idsY_eq, foldl_step, getD_mem', snocI, snocS, rowSnoc]))
theorem run_c_sIds_s (s : Syntax) (o : List Syntax) : aexec Try.prog (Option.getD (Func.body Try.f113) Code.skip) (entry [Ob.arr true 5 (List.map syntaxC o)] [syntaxA s, SV.one
 (AC.ref 0)] 33) [Orc.br [Orc.call [Mode.rd, Mode.rd] [] (AV.sv (lb (hasI o s))), Orc.br [Orc.call [Mode.rd] (syntaxO s) (AV.sv (syntaxR s 0)), Orc.ghost (Ghost.sel [0, 5] [1, 22,
 23, 24]), Orc.loop (List.length (Syntax.items s) - 0) (Lc_sIds_sLa s o 0) (Ic_sIds_sLa s o) [(True, AEx.exit 0, W0c_sIds_sLa s o (Ob.arr true 5 (List.map syntaxC (idsY s o))),
 [Orc.fin [1]])]] [Orc.ghost (Ghost.move 0), Orc.ghost (Ghost.sel [0, 2] [1, 22, 23, 24]), Orc.loop (List.length (Syntax.items s) - 0) (Lc_sIds_sLa s o 0) (Ic_sIds_sLa s o) [(True,
 AEx.exit 0, W0c_sIds_sLa s o (Ob.arr true 5 (List.map syntaxC (idsY s o))), [Orc.fin [1]])]]] [Orc.bool false, Orc.ghost (Ghost.move 0), Orc.ghost (Ghost.sel [0, 2] [1, 22, 23,
 24]), Orc.loop (List.length (Syntax.items s) - 0) (Lc_sIds_sLa s o 0) (Ic_sIds_sLa s o) [(True, AEx.exit 0, W0c_sIds_sLa s o (Ob.arr true 5 (List.map syntaxC (idsY s o))),
 [Orc.fin [1]])]]] (finK Try.prog [ResultVar.tmp 4] [Ob.dead, Ob.arr true 5 (List.map syntaxC (idsY s o))] (AV.sv (SV.one (AC.ref 1)))) = ((decide (Syntax.kind s = 1) = true →
 P_c_sHasI o s ∧ ((!hasI o s) = true → P_c_sCopyY s ∧ (List.length (List.map syntaxC o) + 1) * 80 ≤ 140737488355328 ∧ (List.length (List.map syntaxC (Syntax.items s)) ≤
 9223372036854775807 → Tc_sIds_sLa s o (li 0) (Ob.arr true 5 (List.map syntaxC o ++ [syntaxF s])) = Lc_sIds_sLa s o 0 ∧ Ic_sIds_sLa s o (List.length (Syntax.items s) - 0)
 (Lc_sIds_sLa s o 0) ∧ LoopSem Try.prog (loopAt Try.f113 0) (Ic_sIds_sLa s o) (Yc_sIds_sLa s o) ∧ (True → ObsEq [Ob.dead, Ob.arr true 5 (List.map syntaxC (idsY s o))] [Ob.dead,
 Ob.arr true 5 (List.map syntaxC (idsY s o))] ∧ AV.sv (SV.one (AC.ref 1)) = AV.sv (SV.one (AC.ref 1))) ∧ True)) ∧ ((!hasI o s) = false → List.length (List.map syntaxC (Syntax.items
 s)) ≤ 9223372036854775807 → Tc_sIds_sLa s o (li 0) (Ob.arr true 5 (List.map syntaxC o)) = Lc_sIds_sLa s o 0 ∧ Ic_sIds_sLa s o (List.length (Syntax.items s) - 0) (Lc_sIds_sLa s o
 0) ∧ LoopSem Try.prog (loopAt Try.f113 0) (Ic_sIds_sLa s o) (Yc_sIds_sLa s o) ∧ (True → ObsEq [Ob.dead, Ob.arr true 5 (List.map syntaxC (idsY s o))] [Ob.dead, Ob.arr true 5
 (List.map syntaxC (idsY s o))] ∧ AV.sv (SV.one (AC.ref 1)) = AV.sv (SV.one (AC.ref 1))) ∧ True)) ∧ (decide (Syntax.kind s = 1) = false → false = false ∧ (List.length (List.map
 syntaxC (Syntax.items s)) ≤ 9223372036854775807 → Tc_sIds_sLa s o (li 0) (Ob.arr true 5 (List.map syntaxC o)) = Lc_sIds_sLa s o 0 ∧ Ic_sIds_sLa s o (List.length (Syntax.items s) -
 0) (Lc_sIds_sLa s o 0) ∧ LoopSem Try.prog (loopAt Try.f113 0) (Ic_sIds_sLa s o) (Yc_sIds_sLa s o) ∧ (True → ObsEq [Ob.dead, Ob.arr true 5 (List.map syntaxC (idsY s o))] [Ob.dead,
 Ob.arr true 5 (List.map syntaxC (idsY s o))] ∧ AV.sv (SV.one (AC.ref 1)) = AV.sv (SV.one (AC.ref 1))) ∧ True))) := by kernel_rfl
theorem c_sIds_s (s : Syntax) (o : List Syntax) (h : o.length + sizeY s ≤ 2147483647 ∧ wY s ≤ 1048576) (ih : ∀ z ∈ s.items, ∀ (o : List Syntax) (h : o.length + sizeY z ≤ 2147483647
 ∧ wY z ≤ 1048576), P_c_sIds z o)  : P_c_sIds s o := by
  refine CallOK.ofRun wide (run_c_sIds_s s o) Try.call113 Try.func113 rfl rfl rfl ?_
  have g4 := sizeY_eq s
  with_reducible repeat' (first | apply And.intro | exact flatI | exact flatS | exact rowLens | exact ih | (intro; skip) | apply obsN | apply obsC | apply obA | apply obM | apply obB | apply svA | apply tupA | apply lcA | apply lcS | apply svC | apply liC | apply lbC | apply lsC | apply vIc | apply vBc | apply vSc | apply vLc | apply mapC | apply Hc_sIds_sLa | apply Ec_sIds_sLa | apply Sc_sIds_sLa | apply EW0c_sIds_sLa | apply c_sHasI | apply c_sCopyY)
  all_goals (try simp only [std] at *)
  all_goals (try (first | with_reducible apply c_sHasI | with_reducible apply c_sCopyY | with_reducible apply ih | (simp only [← List.map_append]; first | with_reducible apply c_sHasI | with_reducible apply c_sCopyY | with_reducible apply ih)))
  all_goals (try (first | with_reducible rfl | omega | assumption | (refine (decide_eq_true ?_).symm; assumption) | (refine (decide_eq_false ?_).symm; assumption) | (refine rowGet ?_; (first | omega | (simp only [std]; omega) | grind)) | (refine getC ?_ rfl; (first | omega | (simp only [std]; omega) | grind)) | (show (_ : St) = _; rfl) | grind [ids0, snocI, snocS, rowSnoc]))
theorem c_sIds (s : Syntax) : ∀ (o : List Syntax) (h : o.length + sizeY s ≤ 2147483647 ∧ wY s ≤ 1048576), P_c_sIds s o := Syntax.ind (P := fun s => ∀ (o : List Syntax) (h : o.length + sizeY s ≤ 2147483647 ∧ wY s ≤ 1048576), P_c_sIds s o) (fun s ih o h => c_sIds_s s o h ih) s
def stpL (C : List Capture) (a : Nat) : List Syntax → List Capture
  | [] => C
  | x :: r => let O := stpL C a r; if 0 ≤ fnd C x ∧ 0 < (C.getD (fnd C x).toNat default).depth then O.set (fnd C x).toNat ((C.getD (fnd C x).toNat default).each.getD a default) else O
def stpTo (C : List Capture) (a : Nat) (I : List Syntax) (k : Nat) : List Capture := stpL C a (I.take k).reverse
theorem stpL_len (C : List Capture) (a : Nat) : ∀ I, (stpL C a I).length = C.length
  | [] => rfl
  | x :: r => by simp only [stpL]; split <;> simp [stpL_len C a r]
theorem stpTo_step {C : List Capture} {a : Nat} {I : List Syntax} {k : Nat} (h : k < I.length) : stpTo C a I (k + 1) = if 0 ≤ fnd C (I.getD k default) ∧ 0 < (C.getD (fnd C (I.getD k default)).toNat default).depth then (stpTo C a I k).set (fnd C (I.getD k default)).toNat ((C.getD (fnd C (I.getD k default)).toNat default).each.getD a default) else stpTo C a I k := by
  unfold stpTo; rw [take_get h, List.reverse_append]; rfl
theorem setP {L : List Capture} {k : Nat} {x : Capture} : (L.map captureC).set k (captureF x) = (L.set k x).map captureC := by rw [List.map_set, captureC_eq]
theorem sizeY_le' (s : Syntax) : sizeY s ≤ wY s + 1 := by
  refine Syntax.ind (P := fun s => sizeY s ≤ wY s + 1) (fun s ih => ?_) s
  have : ∀ L : List Syntax, (∀ x ∈ L, sizeY x ≤ wY x + 1) → sumBy sizeY L ≤ L.length + sumBy wY L := by
    intro L
    induction L with
    | nil => intro _; simp [sumBy]
    | cons x r ihr =>
      intro h
      have h1 := h x List.mem_cons_self
      have h2 := ihr fun y hy => h y (List.mem_cons_of_mem _ hy)
      simp only [sumBy, List.length_cons]; omega
  have h1 := this s.items ih
  have h2 := wY_eq s
  rw [sizeY_eq]; omega
abbrev P_c_sStep (C : List Capture) (t : Syntax) (a : Nat) : Prop := CallOK Try.prog 89 [] [ll (C.map captureC), syntaxA t, li a] [] (.sv (ll ((stpTo C a (idsY t []) (idsY t []).length).map captureC)))
def Tc_sStepLa (C : List Capture) (t : Syntax) (a : Nat) (x0 : SV) (x1 : Ob) : St := St.mk (regsOf 48 [(0, AV.sv (ll (List.map captureC C))), (2, AV.sv (li (↑a : Int))), (7, AV.sv
 (SV.one (AC.ref 0))), (16, AV.sv (SV.one (AC.ref 1))), (17, AV.sv (li (↑(List.length (List.map syntaxC (idsY t []))) : Int))), (18, AV.sv x0)]) [x1, Ob.arr true 5 (List.map
 syntaxC (idsY t []))] 0 
def Lc_sStepLa (C : List Capture) (t : Syntax) (a : Nat) (k : Nat) : St := Tc_sStepLa C t a (li (↑k : Int)) (Ob.arr false 12 (List.map captureC (stpTo C a (idsY t []) k))) 
def Ic_sStepLa (C : List Capture) (t : Syntax) (a : Nat) : Nat → St → Prop := Head (Lc_sStepLa C t a) (fun k => k ≤ List.length (idsY t []) ∧ List.length (idsY t []) ≤
 9223372036854775807) fun k => List.length (idsY t []) - k 
def W0c_sStepLa (C : List Capture) (t : Syntax) (a : Nat) (x0 : Ob) : St := St.mk (regsOf 48 [(7, AV.sv (SV.one (AC.ref 0)))]) [x0] 0 
def Yc_sStepLa (C : List Capture) (t : Syntax) (a : Nat) : List (Prop × AEx × St) := [(True, AEx.exit 0, W0c_sStepLa C t a (Ob.arr false 12 (List.map captureC (stpTo C a (idsY t
 []) (List.length (idsY t []))))))]
theorem Hc_sStepLa {C : List Capture} {t : Syntax} {a : Nat} {k : Nat} {m : Nat} (h : (fun k => k ≤ List.length (idsY t []) ∧ List.length (idsY t []) ≤ 9223372036854775807) k) (hm
 : (fun k => List.length (idsY t []) - k) k = m) : Ic_sStepLa C t a m (Lc_sStepLa C t a k) := hm ▸ Head.mk h
theorem Ec_sStepLa {C : List Capture} {t : Syntax} {a : Nat} {k : Nat} {x0 : SV} {x1 : Ob} (h0 : x0 = (li (↑k : Int))) (h1 : x1 = (Ob.arr false 12 (List.map captureC (stpTo C a
 (idsY t []) k)))) : Tc_sStepLa C t a x0 x1 = Lc_sStepLa C t a k := by
  rw [h0, h1]
  rfl
theorem EW0c_sStepLa {C : List Capture} {t : Syntax} {a : Nat} {x0 y0 : Ob} (h0 : x0 = y0) : W0c_sStepLa C t a x0 = W0c_sStepLa C t a y0 := by rw [h0]
abbrev a1__sStepLa (t : Syntax) (k : Nat) := (List.getD (idsY t []) (Int.toNat (↑k : Int)) default)
abbrev a2__sStepLa (C : List Capture) (t : Syntax) (k : Nat) := (List.getD C (Int.toNat (fnd C (a1__sStepLa t k))) default)
theorem run_c_sStepLa (C : List Capture) (t : Syntax) (a : Nat) (k : Nat) : aexec Try.prog (loopAt Try.f89 0) (Lc_sStepLa C t a k) [Orc.br [Orc.cells (syntaxF (a1__sStepLa t k)),
 Orc.call [Mode.rd, Mode.rd] [] (AV.sv (li (fnd C (a1__sStepLa t k)))), Orc.br [Orc.cells (captureF (a2__sStepLa C t k)), Orc.br [Orc.cells (captureF (a2__sStepLa C t k)),
 Orc.cells (captureF (List.getD (Capture.each (a2__sStepLa C t k)) a default)), Orc.cells (captureF (List.getD (stpTo C a (idsY t []) k) (Int.toNat (fnd C (a1__sStepLa t k)))
 default)), Orc.ghost (Ghost.sel [0, 1] [0, 2, 7, 16, 17, 18]), Orc.goto (List.length (idsY t []) - (k + 1)) (Lc_sStepLa C t a (k + 1))] [Orc.ghost (Ghost.sel [0, 1] [0, 2, 7, 16,
 17, 18]), Orc.goto (List.length (idsY t []) - (k + 1)) (Lc_sStepLa C t a (k + 1))]] [Orc.bool false, Orc.ghost (Ghost.sel [0, 1] [0, 2, 7, 16, 17, 18]), Orc.goto (List.length
 (idsY t []) - (k + 1)) (Lc_sStepLa C t a (k + 1))]] [Orc.ghost (Ghost.sel [0] [7]), Orc.out 0]] (loopK (Ic_sStepLa C t a) (Yc_sStepLa C t a) (List.length (idsY t []) - k)) =
 ((decide ((↑k : Int) < (↑(List.length (List.map syntaxC (idsY t []))) : Int)) = true → (0 ≤ (↑k : Int) ∧ Int.toNat (↑k : Int) < List.length (List.map syntaxC (idsY t []))) ∧
 (List.map syntaxC (idsY t []))[Int.toNat (↑k : Int)]? = some (syntaxF (a1__sStepLa t k)) ∧ P_c_sFind C (a1__sStepLa t k) ∧ (decide (0 ≤ fnd C (a1__sStepLa t k)) = true → (0 ≤ fnd
 C (a1__sStepLa t k) ∧ (List.map captureC C)[Int.toNat (fnd C (a1__sStepLa t k))]? = some (captureF (a2__sStepLa C t k))) ∧ (decide (0 < Capture.depth (a2__sStepLa C t k)) = true →
 (0 ≤ fnd C (a1__sStepLa t k) ∧ (List.map captureC C)[Int.toNat (fnd C (a1__sStepLa t k))]? = some (captureF (a2__sStepLa C t k))) ∧ (0 ≤ (↑a : Int) ∧ (List.map captureC
 (Capture.each (a2__sStepLa C t k)))[Int.toNat (↑a : Int)]? = some (captureF (List.getD (Capture.each (a2__sStepLa C t k)) a default))) ∧ (0 ≤ fnd C (a1__sStepLa t k) ∧ Int.toNat
 (fnd C (a1__sStepLa t k)) < List.length (List.map captureC (stpTo C a (idsY t []) k))) ∧ (List.map captureC (stpTo C a (idsY t []) k))[Int.toNat (fnd C (a1__sStepLa t k))]? = some
 (captureF (List.getD (stpTo C a (idsY t []) k) (Int.toNat (fnd C (a1__sStepLa t k))) default)) ∧ rng IntKind.i64 ((↑k : Int) + 1) ∧ List.length (idsY t []) - (k + 1) < List.length
 (idsY t []) - k ∧ Tc_sStepLa C t a (li ((↑k : Int) + 1)) (Ob.arr false 12 (List.set (List.map captureC (stpTo C a (idsY t []) k)) (Int.toNat (fnd C (a1__sStepLa t k))) (captureF
 (List.getD (Capture.each (a2__sStepLa C t k)) a default)))) = Lc_sStepLa C t a (k + 1) ∧ Ic_sStepLa C t a (List.length (idsY t []) - (k + 1)) (Lc_sStepLa C t a (k + 1))) ∧ (decide
 (0 < Capture.depth (a2__sStepLa C t k)) = false → rng IntKind.i64 ((↑k : Int) + 1) ∧ List.length (idsY t []) - (k + 1) < List.length (idsY t []) - k ∧ Tc_sStepLa C t a (li ((↑k :
 Int) + 1)) (Ob.arr false 12 (List.map captureC (stpTo C a (idsY t []) k))) = Lc_sStepLa C t a (k + 1) ∧ Ic_sStepLa C t a (List.length (idsY t []) - (k + 1)) (Lc_sStepLa C t a (k +
 1)))) ∧ (decide (0 ≤ fnd C (a1__sStepLa t k)) = false → false = false ∧ rng IntKind.i64 ((↑k : Int) + 1) ∧ List.length (idsY t []) - (k + 1) < List.length (idsY t []) - k ∧
 Tc_sStepLa C t a (li ((↑k : Int) + 1)) (Ob.arr false 12 (List.map captureC (stpTo C a (idsY t []) k))) = Lc_sStepLa C t a (k + 1) ∧ Ic_sStepLa C t a (List.length (idsY t []) - (k
 + 1)) (Lc_sStepLa C t a (k + 1)))) ∧ (decide ((↑k : Int) < (↑(List.length (List.map syntaxC (idsY t []))) : Int)) = false → True ∧ W0c_sStepLa C t a (Ob.arr false 12 (List.map
 captureC (stpTo C a (idsY t []) k))) = W0c_sStepLa C t a (Ob.arr false 12 (List.map captureC (stpTo C a (idsY t []) (List.length (idsY t []))))))) := by kernel_rfl
theorem Sc_sStepLa (C : List Capture) (t : Syntax) (a : Nat) (h : List.length C ≤ 1048576 ∧ wY t ≤ 1048576 ∧ a ≤ 1048576) (hb : ∀ (x : Syntax), x ∈ idsY t [] → 0 ≤ fnd C x → 0 <
 Capture.depth (List.getD C (Int.toNat (fnd C x)) default) → a < List.length (Capture.each (List.getD C (Int.toNat (fnd C x)) default)))  : LoopSem Try.prog (loopAt Try.f89 0)
 (Ic_sStepLa C t a) (Yc_sStepLa C t a) := by
  refine LoopSem.ofHead wide fun k h => ⟨_, _, run_c_sStepLa C t a k, ?_⟩
  try delta a1__sStepLa a2__sStepLa
  have g1 := fnd_lt C ((idsY t []).getD k default)
  have g2 := @stpTo_step C a (idsY t []) k
  have g3 : (stpTo C a (idsY t []) k).length = C.length := stpL_len C a ((idsY t []).take k).reverse
  have g4 := hb ((idsY t []).getD k default)
  with_reducible repeat' (first | apply And.intro | exact flatI | exact flatS | exact rowLens | (intro; skip) | apply obsN | apply obsC | apply obA | apply obM | apply obB | apply svA | apply tupA | apply lcA | apply lcS | apply svC | apply liC | apply lbC | apply lsC | apply vIc | apply vBc | apply vSc | apply vLc | apply mapC | apply Hc_sStepLa | apply Ec_sStepLa | apply EW0c_sStepLa | apply c_sIds | apply c_sFind)
  all_goals (try simp only [std] at *)
  all_goals (try (first | with_reducible apply c_sIds | with_reducible apply c_sFind | (simp only [← List.map_append]; first | with_reducible apply c_sIds | with_reducible apply c_sFind)))
  all_goals (try (first | with_reducible rfl | omega | assumption | (refine (decide_eq_true ?_).symm; assumption) | (refine (decide_eq_false ?_).symm; assumption) | (refine rowGet ?_; (first | omega | (simp only [std]; omega) | grind)) | (refine getC ?_ rfl; (first | omega | (simp only [std]; omega) | grind)) | (show (_ : St) = _; rfl) | grind [getD_mem', setP, snocI, snocS, rowSnoc]))
theorem run_c_sStep (C : List Capture) (t : Syntax) (a : Nat) : aexec Try.prog (Option.getD (Func.body Try.f89) Code.skip) (entry [] [ll (List.map captureC C), syntaxA t, li (↑a :
 Int)] 48) [Orc.bool true, Orc.bool false, Orc.call [Mode.rd, Mode.own true 5] [Ob.dead, Ob.arr true 5 (List.map syntaxC (idsY t []))] (AV.sv (SV.one (AC.ref 1))), Orc.ghost
 (Ghost.sel [2, 5] [0, 2, 7, 16, 17, 18]), Orc.loop (List.length (idsY t []) - 0) (Lc_sStepLa C t a 0) (Ic_sStepLa C t a) [(True, AEx.exit 0, W0c_sStepLa C t a (Ob.arr false 12
 (List.map captureC (stpTo C a (idsY t []) (List.length (idsY t []))))), [Orc.ghost (Ghost.lock 0), Orc.fin []])]] (finK Try.prog [ResultVar.tmp 6] [] (AV.sv (ll (List.map captureC
 (stpTo C a (idsY t []) (List.length (idsY t []))))))) = ((∀ (e : List Cell), e ∈ List.map captureC C → List.length e = 12) ∧ (0 + List.length (List.map captureC C)) * 192 ≤
 140737488355328 ∧ P_c_sIds t [] ∧ (List.length (List.map syntaxC (idsY t [])) ≤ 9223372036854775807 → Tc_sStepLa C t a (li 0) (Ob.arr false 12 (List.map captureC C)) = Lc_sStepLa
 C t a 0 ∧ Ic_sStepLa C t a (List.length (idsY t []) - 0) (Lc_sStepLa C t a 0) ∧ LoopSem Try.prog (loopAt Try.f89 0) (Ic_sStepLa C t a) (Yc_sStepLa C t a) ∧ (True → ObsEq [] [] ∧
 AV.sv (ll (List.map captureC (stpTo C a (idsY t []) (List.length (idsY t []))))) = AV.sv (ll (List.map captureC (stpTo C a (idsY t []) (List.length (idsY t [])))))) ∧ True)) := by
 kernel_rfl
theorem c_sStep (C : List Capture) (t : Syntax) (a : Nat) (h : C.length ≤ 1048576 ∧ wY t ≤ 1048576 ∧ a ≤ 1048576) (hb : ∀ x ∈ idsY t [], 0 ≤ fnd C x → 0 < (C.getD (fnd C x).toNat
 default).depth → a < (C.getD (fnd C x).toNat default).each.length)  : P_c_sStep C t a := by
  refine CallOK.ofRun wide (run_c_sStep C t a) Try.call89 Try.func89 rfl rfl rfl ?_
  have g1 := idsY_len t []
  have g2 := sizeY_le' t
  have g5 : stpTo C a (idsY t []) 0 = C := rfl
  with_reducible repeat' (first | apply And.intro | exact flatI | exact flatS | exact rowLens | (intro; skip) | apply obsN | apply obsC | apply obA | apply obM | apply obB | apply svA | apply tupA | apply lcA | apply lcS | apply svC | apply liC | apply lbC | apply lsC | apply vIc | apply vBc | apply vSc | apply vLc | apply mapC | apply Hc_sStepLa | apply Ec_sStepLa | apply Sc_sStepLa | apply EW0c_sStepLa | apply c_sIds | apply c_sFind)
  all_goals (try simp only [std] at *)
  all_goals (try (first | with_reducible apply c_sIds | with_reducible apply c_sFind | (simp only [← List.map_append]; first | with_reducible apply c_sIds | with_reducible apply c_sFind)))
  all_goals (try (first | with_reducible rfl | omega | assumption | (refine (decide_eq_true ?_).symm; assumption) | (refine (decide_eq_false ?_).symm; assumption) | (refine rowGet ?_; (first | omega | (simp only [std]; omega) | grind)) | (refine getC ?_ rfl; (first | omega | (simp only [std]; omega) | grind)) | (show (_ : St) = _; rfl) | grind [snocI, snocS, rowSnoc]))
abbrev P_c_sPlaced (t : Syntax) : Prop := CallOK Try.prog 47 [] [syntaxA t] [] (.sv (lb (dotf t)))
def Tc_sPlaced_sLa (t : Syntax) (x0 : SV) : St := St.mk (regsOf 42 [(1, AV.sv (SV.one (AC.ptr 0 0))), (6, AV.sv (ll (List.map syntaxC (Syntax.items t)))), (7, AV.sv (li
 (↑(List.length (List.map syntaxC (Syntax.items t))) : Int))), (8, AV.sv x0)]) [Ob.box (vals (syntaxF t))] 0 
def Lc_sPlaced_sLa (t : Syntax) (k : Nat) : St := Tc_sPlaced_sLa t (li (↑k : Int)) 
def Ic_sPlaced_sLa (t : Syntax) : Nat → St → Prop := Head (Lc_sPlaced_sLa t) (fun k => k ≤ List.length (Syntax.items t) ∧ List.length (Syntax.items t) ≤ 9223372036854775807 ∧ dotfs
 true (Syntax.items t) = dotfs (barred (Syntax.items t) k) (List.drop k (Syntax.items t))) fun k => List.length (Syntax.items t) - k 
def W0c_sPlaced_sLa (t : Syntax) : St := St.mk (regsOf 42 [(1, AV.sv (SV.one (AC.ptr 0 0)))]) [Ob.box (vals (syntaxF t))] 0 
def W1c_sPlaced_sLa (t : Syntax) (x0 : SV) : St := St.mk (regsOf 42 [(2, AV.sv x0)]) [] 0 
def Yc_sPlaced_sLa (t : Syntax) : List (Prop × AEx × St) := [(dotfs true (Syntax.items t) = true, AEx.exit 0, W0c_sPlaced_sLa t), (dotfs true (Syntax.items t) = false, AEx.ret,
 W1c_sPlaced_sLa t (lb false))]
theorem Hc_sPlaced_sLa {t : Syntax} {k : Nat} {m : Nat} (h : (fun k => k ≤ List.length (Syntax.items t) ∧ List.length (Syntax.items t) ≤ 9223372036854775807 ∧ dotfs true
 (Syntax.items t) = dotfs (barred (Syntax.items t) k) (List.drop k (Syntax.items t))) k) (hm : (fun k => List.length (Syntax.items t) - k) k = m) : Ic_sPlaced_sLa t m
 (Lc_sPlaced_sLa t k) := hm ▸ Head.mk h
theorem Ec_sPlaced_sLa {t : Syntax} {k : Nat} {x0 : SV} (h0 : x0 = (li (↑k : Int))) : Tc_sPlaced_sLa t x0 = Lc_sPlaced_sLa t k := by
  rw [h0]
  rfl
theorem EW1c_sPlaced_sLa {t : Syntax} {x0 y0 : SV} (h0 : x0 = y0) : W1c_sPlaced_sLa t x0 = W1c_sPlaced_sLa t y0 := by rw [h0]
abbrev a1__sPlaced_sLa (t : Syntax) (k : Nat) := ((!isDots (List.getD (Syntax.items t) k default)) = true → P_c_sPlaced (List.getD (Syntax.items t) k default) ∧ ((!dotf (List.getD
 (Syntax.items t) k default)) = true → dotfs true (Syntax.items t) = false ∧ W1c_sPlaced_sLa t (lb false) = W1c_sPlaced_sLa t (lb false)) ∧ ((!dotf (List.getD (Syntax.items t) k
 default)) = false → rng IntKind.i64 ((↑k : Int) + 1) ∧ List.length (Syntax.items t) - (k + 1) < List.length (Syntax.items t) - k ∧ Tc_sPlaced_sLa t (li ((↑k : Int) + 1)) =
 Lc_sPlaced_sLa t (k + 1) ∧ Ic_sPlaced_sLa t (List.length (Syntax.items t) - (k + 1)) (Lc_sPlaced_sLa t (k + 1))))
abbrev a2__sPlaced_sLa (t : Syntax) (k : Nat) := ((!isDots (List.getD (Syntax.items t) k default)) = false → false = false ∧ rng IntKind.i64 ((↑k : Int) + 1) ∧ List.length
 (Syntax.items t) - (k + 1) < List.length (Syntax.items t) - k ∧ Tc_sPlaced_sLa t (li ((↑k : Int) + 1)) = Lc_sPlaced_sLa t (k + 1) ∧ Ic_sPlaced_sLa t (List.length (Syntax.items t)
 - (k + 1)) (Lc_sPlaced_sLa t (k + 1)))
abbrev a3__sPlaced_sLa (t : Syntax) (k : Nat) := [Orc.call [Mode.rd] [] (AV.sv (lb (dotf (List.getD (Syntax.items t) k default)))), Orc.br [Orc.ghost (Ghost.sel [] [2]), Orc.out 1]
 [Orc.ghost (Ghost.sel [0] [1, 6, 7, 8]), Orc.goto (List.length (Syntax.items t) - (k + 1)) (Lc_sPlaced_sLa t (k + 1))]]
abbrev a4__sPlaced_sLa (t : Syntax) (k : Nat) := (List.getD (Syntax.items t) (Int.toNat ((↑k : Int) - 1)) default)
theorem run_c_sPlaced_sLa (t : Syntax) (k : Nat) : aexec Try.prog (loopAt Try.f47 0) (Lc_sPlaced_sLa t k) [Orc.br [Orc.cells (syntaxF (List.getD (Syntax.items t) k default)),
 Orc.call [Mode.rd] [] (AV.sv (lb (isDots (List.getD (Syntax.items t) k default)))), Orc.br [Orc.br [Orc.bool true, Orc.bool true, Orc.ghost (Ghost.sel [] [2]), Orc.out 1]
 [Orc.cells (syntaxF (a4__sPlaced_sLa t k)), Orc.call [Mode.rd] [] (AV.sv (lb (isDots (a4__sPlaced_sLa t k)))), Orc.br [Orc.bool true, Orc.ghost (Ghost.sel [] [2]), Orc.out 1]
 [Orc.call [Mode.rd] [] (AV.sv (lb (isDots (List.getD (Syntax.items t) k default)))), Orc.br (a3__sPlaced_sLa t k) [Orc.bool false, Orc.ghost (Ghost.sel [0] [1, 6, 7, 8]), Orc.goto
 (List.length (Syntax.items t) - (k + 1)) (Lc_sPlaced_sLa t (k + 1))]]]] [Orc.bool false, Orc.call [Mode.rd] [] (AV.sv (lb (isDots (List.getD (Syntax.items t) k default)))), Orc.br
 (a3__sPlaced_sLa t k) [Orc.bool false, Orc.ghost (Ghost.sel [0] [1, 6, 7, 8]), Orc.goto (List.length (Syntax.items t) - (k + 1)) (Lc_sPlaced_sLa t (k + 1))]]] [Orc.ghost
 (Ghost.sel [0] [1]), Orc.out 0]] (loopK (Ic_sPlaced_sLa t) (Yc_sPlaced_sLa t) (List.length (Syntax.items t) - k)) = ((decide ((↑k : Int) < (↑(List.length (List.map syntaxC
 (Syntax.items t))) : Int)) = true → (0 ≤ (↑k : Int) ∧ (List.map syntaxC (Syntax.items t))[Int.toNat (↑k : Int)]? = some (syntaxF (List.getD (Syntax.items t) k default))) ∧
 P_c_sDots (List.getD (Syntax.items t) k default) ∧ (isDots (List.getD (Syntax.items t) k default) = true → (decide ((↑k : Int) = 0) = true → true = true ∧ true = true ∧ dotfs true
 (Syntax.items t) = false ∧ W1c_sPlaced_sLa t (lb false) = W1c_sPlaced_sLa t (lb false)) ∧ (decide ((↑k : Int) = 0) = false → rng IntKind.i64 ((↑k : Int) - 1) ∧ (0 ≤ (↑k : Int) - 1
 ∧ (List.map syntaxC (Syntax.items t))[Int.toNat ((↑k : Int) - 1)]? = some (syntaxF (a4__sPlaced_sLa t k))) ∧ P_c_sDots (a4__sPlaced_sLa t k) ∧ (isDots (a4__sPlaced_sLa t k) = true
 → true = true ∧ dotfs true (Syntax.items t) = false ∧ W1c_sPlaced_sLa t (lb false) = W1c_sPlaced_sLa t (lb false)) ∧ (isDots (a4__sPlaced_sLa t k) = false → P_c_sDots (List.getD
 (Syntax.items t) k default) ∧ (a1__sPlaced_sLa t k) ∧ (a2__sPlaced_sLa t k)))) ∧ (isDots (List.getD (Syntax.items t) k default) = false → false = false ∧ P_c_sDots (List.getD
 (Syntax.items t) k default) ∧ (a1__sPlaced_sLa t k) ∧ (a2__sPlaced_sLa t k))) ∧ (decide ((↑k : Int) < (↑(List.length (List.map syntaxC (Syntax.items t))) : Int)) = false → dotfs
 true (Syntax.items t) = true ∧ W0c_sPlaced_sLa t = W0c_sPlaced_sLa t)) := by kernel_rfl
theorem Sc_sPlaced_sLa (t : Syntax) (ih : ∀ (z : Syntax), z ∈ Syntax.items t → P_c_sPlaced z)  : LoopSem Try.prog (loopAt Try.f47 0) (Ic_sPlaced_sLa t) (Yc_sPlaced_sLa t) := by
  refine LoopSem.ofHead wide fun k h => ⟨_, _, run_c_sPlaced_sLa t k, ?_⟩
  try delta a1__sPlaced_sLa a2__sPlaced_sLa a3__sPlaced_sLa a4__sPlaced_sLa
  have g1 := @dotfs_step t.items (barred t.items k) k
  have g2 := @dotfs_end t.items (barred t.items k) k
  have e : ((k : Int) - 1).toNat = k - 1 := by omega
  have g3 : barred t.items k = (decide (k = 0) || isDots (t.items.getD (k - 1) default)) := rfl
  have g4 : barred t.items (k + 1) = isDots (t.items.getD k default) := by simp [barred]
  with_reducible repeat' (first | apply And.intro | exact flatI | exact flatS | exact rowLens | exact ih | (intro; skip) | apply obsN | apply obsC | apply obA | apply obM | apply obB | apply svA | apply tupA | apply lcA | apply lcS | apply svC | apply liC | apply lbC | apply lsC | apply vIc | apply vBc | apply vSc | apply vLc | apply mapC | apply Hc_sPlaced_sLa | apply Ec_sPlaced_sLa | apply EW1c_sPlaced_sLa | apply c_sDots | apply ih)
  all_goals (try simp only [std] at *)
  all_goals (try (first | with_reducible apply c_sDots | with_reducible apply ih | (simp only [← List.map_append]; first | with_reducible apply c_sDots | with_reducible apply ih)))
  all_goals (try (first | with_reducible rfl | omega | assumption | (refine (decide_eq_true ?_).symm; assumption) | (refine (decide_eq_false ?_).symm; assumption) | (refine rowGet ?_; (first | omega | (simp only [std]; omega) | grind)) | (refine getC ?_ rfl; (first | omega | (simp only [std]; omega) | grind)) | (show (_ : St) = _; rfl) | grind [getD_mem', snocI, snocS, rowSnoc]))
theorem run_c_sPlaced_s (t : Syntax) : aexec Try.prog (Option.getD (Func.body Try.f47) Code.skip) (entry [] [syntaxA t] 42) [Orc.ghost (Ghost.sel [0] [1, 6, 7, 8]), Orc.loop
 (List.length (Syntax.items t) - 0) (Lc_sPlaced_sLa t 0) (Ic_sPlaced_sLa t) [(dotfs true (Syntax.items t) = true, AEx.exit 0, W0c_sPlaced_sLa t, [Orc.call [Mode.rd] [] (AV.sv (lb
 (isDots t))), Orc.fin []]), (dotfs true (Syntax.items t) = false, AEx.ret, W1c_sPlaced_sLa t (lb false), [Orc.fin []])]] (finK Try.prog [ResultVar.tmp 2] [] (AV.sv (lb (dotf t))))
 = (List.length (List.map syntaxC (Syntax.items t)) ≤ 9223372036854775807 → Tc_sPlaced_sLa t (li 0) = Lc_sPlaced_sLa t 0 ∧ Ic_sPlaced_sLa t (List.length (Syntax.items t) - 0)
 (Lc_sPlaced_sLa t 0) ∧ LoopSem Try.prog (loopAt Try.f47 0) (Ic_sPlaced_sLa t) (Yc_sPlaced_sLa t) ∧ (dotfs true (Syntax.items t) = true → P_c_sDots t ∧ ObsEq [] [] ∧ AV.sv (lb
 !isDots t) = AV.sv (lb (dotf t))) ∧ (dotfs true (Syntax.items t) = false → ObsEq [] [] ∧ AV.sv (lb false) = AV.sv (lb (dotf t))) ∧ True) := by kernel_rfl
theorem c_sPlaced_s (t : Syntax) (ih : ∀ z ∈ t.items, P_c_sPlaced z)  : P_c_sPlaced t := by
  refine CallOK.ofRun wide (run_c_sPlaced_s t) Try.call47 Try.func47 rfl rfl rfl ?_
  have g1 := dotf_eq t
  have g2 : barred t.items 0 = true := rfl
  have g3 : t.items.drop 0 = t.items := rfl
  with_reducible repeat' (first | apply And.intro | exact flatI | exact flatS | exact rowLens | exact ih | (intro; skip) | apply obsN | apply obsC | apply obA | apply obM | apply obB | apply svA | apply tupA | apply lcA | apply lcS | apply svC | apply liC | apply lbC | apply lsC | apply vIc | apply vBc | apply vSc | apply vLc | apply mapC | apply Hc_sPlaced_sLa | apply Ec_sPlaced_sLa | apply Sc_sPlaced_sLa | apply EW1c_sPlaced_sLa | apply c_sDots)
  all_goals (try simp only [std] at *)
  all_goals (try (first | with_reducible apply c_sDots | with_reducible apply ih | (simp only [← List.map_append]; first | with_reducible apply c_sDots | with_reducible apply ih)))
  all_goals (try (first | with_reducible rfl | omega | assumption | (refine (decide_eq_true ?_).symm; assumption) | (refine (decide_eq_false ?_).symm; assumption) | (refine rowGet ?_; (first | omega | (simp only [std]; omega) | grind)) | (refine getC ?_ rfl; (first | omega | (simp only [std]; omega) | grind)) | (show (_ : St) = _; rfl) | grind [snocI, snocS, rowSnoc]))
theorem c_sPlaced (t : Syntax) : P_c_sPlaced t := Syntax.ind (P := fun t => P_c_sPlaced t) (fun t ih => c_sPlaced_s t ih) t
def capOf (C : List Capture) (x : Syntax) : Capture := C.getD (fnd C x).toNat default
def rep (C : List Capture) (x : Syntax) : Bool := decide (0 ≤ fnd C x) && decide (0 < (capOf C x).depth)
def cnN (C : List Capture) (I : List Syntax) : Nat → Int
  | 0 => -1
  | k + 1 => if rep C (I.getD k default) = true then ((capOf C (I.getD k default)).each.length : Int) else cnN C I k
def cnOK (C : List Capture) (I : List Syntax) : Nat → Bool
  | 0 => true
  | k + 1 => cnOK C I k && (!rep C (I.getD k default) || decide (cnN C I k < 0) || decide (cnN C I k = ((capOf C (I.getD k default)).each.length : Int)))
theorem cnOK_le (C : List Capture) (I : List Syntax) : ∀ (m k : Nat), k ≤ m → cnOK C I m = true → cnOK C I k = true
  | 0, k, h, _ => by
    obtain rfl : k = 0 := by omega
    rfl
  | m + 1, k, h, ht => by
    by_cases e : k = m + 1
    · rw [e]; exact ht
    · refine cnOK_le C I m k (by omega) ?_
      simp only [cnOK, Bool.and_eq_true] at ht; exact ht.1
abbrev P_c_sCountC (C : List Capture) (t : Syntax) : Prop := CallOK Try.prog 88 [] [ll (C.map captureC), syntaxA t] [] (.tup [li (if cnOK C (idsY t []) (idsY t []).length = true then cnN C (idsY t []) (idsY t []).length else 0), lb (cnOK C (idsY t []) (idsY t []).length && decide (0 ≤ cnN C (idsY t []) (idsY t []).length))])
def Tc_sCountCLa (C : List Capture) (t : Syntax) (x0 : SV) (x1 : SV) : St := St.mk (regsOf 53 [(0, AV.sv (ll (List.map captureC C))), (6, AV.sv x1), (12, AV.sv (SV.one (AC.ref
 0))), (13, AV.sv (li (↑(List.length (List.map syntaxC (idsY t []))) : Int))), (14, AV.sv x0)]) [Ob.arr true 5 (List.map syntaxC (idsY t []))] 0 
def Lc_sCountCLa (C : List Capture) (t : Syntax) (k : Nat) : St := Tc_sCountCLa C t (li (↑k : Int)) (li (cnN C (idsY t []) k)) 
def Ic_sCountCLa (C : List Capture) (t : Syntax) : Nat → St → Prop := Head (Lc_sCountCLa C t) (fun k => k ≤ List.length (idsY t []) ∧ List.length (idsY t []) ≤ 9223372036854775807
 ∧ cnOK C (idsY t []) k = true) fun k => List.length (idsY t []) - k 
def W0c_sCountCLa (C : List Capture) (t : Syntax) (x0 : SV) : St := St.mk (regsOf 53 [(6, AV.sv x0)]) [] 0 
def W1c_sCountCLa (C : List Capture) (t : Syntax) (x0 : SV) (x1 : SV) : St := St.mk (regsOf 53 [(4, AV.sv x0), (5, AV.sv x1)]) [] 0 
def Yc_sCountCLa (C : List Capture) (t : Syntax) : List (Prop × AEx × St) := [(cnOK C (idsY t []) (List.length (idsY t [])) = true, AEx.exit 0, W0c_sCountCLa C t (li (cnN C (idsY t
 []) (List.length (idsY t []))))), (cnOK C (idsY t []) (List.length (idsY t [])) = false, AEx.ret, W1c_sCountCLa C t (li 0) (lb false))]
theorem Hc_sCountCLa {C : List Capture} {t : Syntax} {k : Nat} {m : Nat} (h : (fun k => k ≤ List.length (idsY t []) ∧ List.length (idsY t []) ≤ 9223372036854775807 ∧ cnOK C (idsY t
 []) k = true) k) (hm : (fun k => List.length (idsY t []) - k) k = m) : Ic_sCountCLa C t m (Lc_sCountCLa C t k) := hm ▸ Head.mk h
theorem Ec_sCountCLa {C : List Capture} {t : Syntax} {k : Nat} {x0 : SV} {x1 : SV} (h0 : x0 = (li (↑k : Int))) (h1 : x1 = (li (cnN C (idsY t []) k))) : Tc_sCountCLa C t x0 x1 =
 Lc_sCountCLa C t k := by
  rw [h0, h1]
  rfl
theorem EW0c_sCountCLa {C : List Capture} {t : Syntax} {x0 y0 : SV} (h0 : x0 = y0) : W0c_sCountCLa C t x0 = W0c_sCountCLa C t y0 := by rw [h0]
theorem EW1c_sCountCLa {C : List Capture} {t : Syntax} {x0 y0 : SV} {x1 y1 : SV} (h0 : x0 = y0) (h1 : x1 = y1) : W1c_sCountCLa C t x0 x1 = W1c_sCountCLa C t y0 y1 := by rw [h0, h1]
abbrev a4__sCountCLa (t : Syntax) (k : Nat) := (List.getD (idsY t []) (Int.toNat (↑k : Int)) default)
abbrev a1__sCountCLa (C : List Capture) (t : Syntax) (k : Nat) := (List.getD C (Int.toNat (fnd C (a4__sCountCLa t k))) default)
abbrev a2__sCountCLa (C : List Capture) (t : Syntax) (k : Nat) := (0 ≤ fnd C (a4__sCountCLa t k) ∧ (List.map captureC C)[Int.toNat (fnd C (a4__sCountCLa t k))]? = some (captureF
 (a1__sCountCLa C t k)))
abbrev a3__sCountCLa (C : List Capture) (t : Syntax) (k : Nat) := (List.length (List.map captureC (Capture.each (a1__sCountCLa C t k))) ≤ 9223372036854775807 → rng IntKind.i64 ((↑k
 : Int) + 1) ∧ List.length (idsY t []) - (k + 1) < List.length (idsY t []) - k ∧ Tc_sCountCLa C t (li ((↑k : Int) + 1)) (li (↑(List.length (List.map captureC (Capture.each
 (a1__sCountCLa C t k)))) : Int)) = Lc_sCountCLa C t (k + 1) ∧ Ic_sCountCLa C t (List.length (idsY t []) - (k + 1)) (Lc_sCountCLa C t (k + 1)))
theorem run_c_sCountCLa (C : List Capture) (t : Syntax) (k : Nat) : aexec Try.prog (loopAt Try.f88 0) (Lc_sCountCLa C t k) [Orc.br [Orc.cells (syntaxF (a4__sCountCLa t k)),
 Orc.call [Mode.rd, Mode.rd] [] (AV.sv (li (fnd C (a4__sCountCLa t k)))), Orc.br [Orc.bool true, Orc.ghost (Ghost.sel [0] [0, 6, 12, 13, 14]), Orc.goto (List.length (idsY t []) -
 (k + 1)) (Lc_sCountCLa C t (k + 1))] [Orc.cells (captureF (a1__sCountCLa C t k)), Orc.br [Orc.ghost (Ghost.sel [0] [0, 6, 12, 13, 14]), Orc.goto (List.length (idsY t []) - (k +
 1)) (Lc_sCountCLa C t (k + 1))] [Orc.br [Orc.cells (captureF (a1__sCountCLa C t k)), Orc.br [Orc.ghost (Ghost.sel [] [4, 5]), Orc.out 1] [Orc.cells (captureF (a1__sCountCLa C t
 k)), Orc.ghost (Ghost.sel [0] [0, 6, 12, 13, 14]), Orc.goto (List.length (idsY t []) - (k + 1)) (Lc_sCountCLa C t (k + 1))]] [Orc.bool false, Orc.cells (captureF (a1__sCountCLa C
 t k)), Orc.ghost (Ghost.sel [0] [0, 6, 12, 13, 14]), Orc.goto (List.length (idsY t []) - (k + 1)) (Lc_sCountCLa C t (k + 1))]]]] [Orc.ghost (Ghost.sel [] [6]), Orc.out 0]] (loopK
 (Ic_sCountCLa C t) (Yc_sCountCLa C t) (List.length (idsY t []) - k)) = ((decide ((↑k : Int) < (↑(List.length (List.map syntaxC (idsY t []))) : Int)) = true → (0 ≤ (↑k : Int) ∧
 Int.toNat (↑k : Int) < List.length (List.map syntaxC (idsY t []))) ∧ (List.map syntaxC (idsY t []))[Int.toNat (↑k : Int)]? = some (syntaxF (a4__sCountCLa t k)) ∧ P_c_sFind C
 (a4__sCountCLa t k) ∧ (decide (fnd C (a4__sCountCLa t k) < 0) = true → true = true ∧ rng IntKind.i64 ((↑k : Int) + 1) ∧ List.length (idsY t []) - (k + 1) < List.length (idsY t [])
 - k ∧ Tc_sCountCLa C t (li ((↑k : Int) + 1)) (li (cnN C (idsY t []) k)) = Lc_sCountCLa C t (k + 1) ∧ Ic_sCountCLa C t (List.length (idsY t []) - (k + 1)) (Lc_sCountCLa C t (k +
 1))) ∧ (decide (fnd C (a4__sCountCLa t k) < 0) = false → (a2__sCountCLa C t k) ∧ (decide (Capture.depth (a1__sCountCLa C t k) ≤ 0) = true → rng IntKind.i64 ((↑k : Int) + 1) ∧
 List.length (idsY t []) - (k + 1) < List.length (idsY t []) - k ∧ Tc_sCountCLa C t (li ((↑k : Int) + 1)) (li (cnN C (idsY t []) k)) = Lc_sCountCLa C t (k + 1) ∧ Ic_sCountCLa C t
 (List.length (idsY t []) - (k + 1)) (Lc_sCountCLa C t (k + 1))) ∧ (decide (Capture.depth (a1__sCountCLa C t k) ≤ 0) = false → (decide (0 ≤ cnN C (idsY t []) k) = true →
 (a2__sCountCLa C t k) ∧ (List.length (List.map captureC (Capture.each (a1__sCountCLa C t k))) ≤ 9223372036854775807 → (decide (cnN C (idsY t []) k ≠ (↑(List.length (List.map
 captureC (Capture.each (a1__sCountCLa C t k)))) : Int)) = true → cnOK C (idsY t []) (List.length (idsY t [])) = false ∧ W1c_sCountCLa C t (li 0) (lb false) = W1c_sCountCLa C t (li
 0) (lb false)) ∧ (decide (cnN C (idsY t []) k ≠ (↑(List.length (List.map captureC (Capture.each (a1__sCountCLa C t k)))) : Int)) = false → (a2__sCountCLa C t k) ∧ (a3__sCountCLa C
 t k)))) ∧ (decide (0 ≤ cnN C (idsY t []) k) = false → false = false ∧ (a2__sCountCLa C t k) ∧ (a3__sCountCLa C t k))))) ∧ (decide ((↑k : Int) < (↑(List.length (List.map syntaxC
 (idsY t []))) : Int)) = false → cnOK C (idsY t []) (List.length (idsY t [])) = true ∧ W0c_sCountCLa C t (li (cnN C (idsY t []) k)) = W0c_sCountCLa C t (li (cnN C (idsY t [])
 (List.length (idsY t [])))))) := by kernel_rfl
theorem Sc_sCountCLa (C : List Capture) (t : Syntax) (h : wY t ≤ 1048576)  : LoopSem Try.prog (loopAt Try.f88 0) (Ic_sCountCLa C t) (Yc_sCountCLa C t) := by
  refine LoopSem.ofHead wide fun k h => ⟨_, _, run_c_sCountCLa C t k, ?_⟩
  try delta a4__sCountCLa a1__sCountCLa a2__sCountCLa a3__sCountCLa
  have g1 := cnOK_le C (idsY t []) (idsY t []).length (k + 1)
  have g2 : cnOK C (idsY t []) (k + 1) = (cnOK C (idsY t []) k && (!rep C ((idsY t []).getD k default) || decide (cnN C (idsY t []) k < 0) || decide (cnN C (idsY t []) k = ((capOf C ((idsY t []).getD k default)).each.length : Int)))) := rfl
  have g3 : cnN C (idsY t []) (k + 1) = if rep C ((idsY t []).getD k default) = true then ((capOf C ((idsY t []).getD k default)).each.length : Int) else cnN C (idsY t []) k := rfl
  have g4 := fnd_lt C ((idsY t []).getD k default)
  have g5 : capOf C ((idsY t []).getD k default) = C.getD (fnd C ((idsY t []).getD k default)).toNat default := rfl
  have g6 : rep C ((idsY t []).getD k default) = (decide (0 ≤ fnd C ((idsY t []).getD k default)) && decide (0 < (capOf C ((idsY t []).getD k default)).depth)) := rfl
  with_reducible repeat' (first | apply And.intro | exact flatI | exact flatS | exact rowLens | (intro; skip) | apply obsN | apply obsC | apply obA | apply obM | apply obB | apply svA | apply tupA | apply lcA | apply lcS | apply svC | apply liC | apply lbC | apply lsC | apply vIc | apply vBc | apply vSc | apply vLc | apply mapC | apply Hc_sCountCLa | apply Ec_sCountCLa | apply EW0c_sCountCLa | apply EW1c_sCountCLa | apply c_sIds | apply c_sFind)
  all_goals (try simp only [std] at *)
  all_goals (try (first | with_reducible apply c_sIds | with_reducible apply c_sFind | (simp only [← List.map_append]; first | with_reducible apply c_sIds | with_reducible apply c_sFind)))
  all_goals (try (first | with_reducible rfl | omega | assumption | (refine (decide_eq_true ?_).symm; assumption) | (refine (decide_eq_false ?_).symm; assumption) | (refine rowGet ?_; (first | omega | (simp only [std]; omega) | grind)) | (refine getC ?_ rfl; (first | omega | (simp only [std]; omega) | grind)) | (show (_ : St) = _; rfl) | grind [getD_mem', snocI, snocS, rowSnoc]))
theorem run_c_sCountC (C : List Capture) (t : Syntax) : aexec Try.prog (Option.getD (Func.body Try.f88) Code.skip) (entry [] [ll (List.map captureC C), syntaxA t] 53) [Orc.bool
 false, Orc.call [Mode.rd, Mode.own true 5] [Ob.dead, Ob.arr true 5 (List.map syntaxC (idsY t []))] (AV.sv (SV.one (AC.ref 1))), Orc.ghost (Ghost.sel [3] [0, 6, 12, 13, 14]),
 Orc.loop (List.length (idsY t []) - 0) (Lc_sCountCLa C t 0) (Ic_sCountCLa C t) [(cnOK C (idsY t []) (List.length (idsY t [])) = true, AEx.exit 0, W0c_sCountCLa C t (li (cnN C
 (idsY t []) (List.length (idsY t [])))), [Orc.fin []]), (cnOK C (idsY t []) (List.length (idsY t [])) = false, AEx.ret, W1c_sCountCLa C t (li 0) (lb false), [Orc.fin []])]] (finK
 Try.prog [ResultVar.tmp 4, ResultVar.tmp 5] [] (AV.tup [li (if cnOK C (idsY t []) (List.length (idsY t [])) = true then cnN C (idsY t []) (List.length (idsY t [])) else 0), lb
 (cnOK C (idsY t []) (List.length (idsY t [])) && decide (0 ≤ cnN C (idsY t []) (List.length (idsY t []))))])) = (P_c_sIds t [] ∧ (List.length (List.map syntaxC (idsY t [])) ≤
 9223372036854775807 → Tc_sCountCLa C t (li 0) (li (-1 : Int)) = Lc_sCountCLa C t 0 ∧ Ic_sCountCLa C t (List.length (idsY t []) - 0) (Lc_sCountCLa C t 0) ∧ LoopSem Try.prog (loopAt
 Try.f88 0) (Ic_sCountCLa C t) (Yc_sCountCLa C t) ∧ (cnOK C (idsY t []) (List.length (idsY t [])) = true → ObsEq [] [] ∧ AV.tup [li (cnN C (idsY t []) (List.length (idsY t []))),
 lb (decide (0 ≤ cnN C (idsY t []) (List.length (idsY t []))))] = AV.tup [li (if cnOK C (idsY t []) (List.length (idsY t [])) = true then cnN C (idsY t []) (List.length (idsY t
 [])) else 0), lb (cnOK C (idsY t []) (List.length (idsY t [])) && decide (0 ≤ cnN C (idsY t []) (List.length (idsY t []))))]) ∧ (cnOK C (idsY t []) (List.length (idsY t [])) =
 false → ObsEq [] [] ∧ AV.tup [li 0, lb false] = AV.tup [li (if cnOK C (idsY t []) (List.length (idsY t [])) = true then cnN C (idsY t []) (List.length (idsY t [])) else 0), lb
 (cnOK C (idsY t []) (List.length (idsY t [])) && decide (0 ≤ cnN C (idsY t []) (List.length (idsY t []))))]) ∧ True)) := by kernel_rfl
theorem c_sCountC (C : List Capture) (t : Syntax) (h : wY t ≤ 1048576)  : P_c_sCountC C t := by
  refine CallOK.ofRun wide (run_c_sCountC C t) Try.call88 Try.func88 rfl rfl rfl ?_
  have g1 := idsY_len t []
  have g2 := sizeY_le' t
  with_reducible repeat' (first | apply And.intro | exact flatI | exact flatS | exact rowLens | (intro; skip) | apply obsN | apply obsC | apply obA | apply obM | apply obB | apply svA | apply tupA | apply lcA | apply lcS | apply svC | apply liC | apply lbC | apply lsC | apply vIc | apply vBc | apply vSc | apply vLc | apply mapC | apply Hc_sCountCLa | apply Ec_sCountCLa | apply Sc_sCountCLa | apply EW0c_sCountCLa | apply EW1c_sCountCLa | apply c_sIds | apply c_sFind)
  all_goals (try simp only [std] at *)
  all_goals (try (first | with_reducible apply c_sIds | with_reducible apply c_sFind | (simp only [← List.map_append]; first | with_reducible apply c_sIds | with_reducible apply c_sFind)))
  all_goals (try (first | with_reducible rfl | omega | assumption | (refine (decide_eq_true ?_).symm; assumption) | (refine (decide_eq_false ?_).symm; assumption) | (refine rowGet ?_; (first | omega | (simp only [std]; omega) | grind)) | (refine getC ?_ rfl; (first | omega | (simp only [std]; omega) | grind)) | (show (_ : St) = _; rfl) | grind [cnN, cnOK, snocI, snocS, rowSnoc]))
abbrev P_c_iHasN (L : List Int) (n : Int) : Prop := CallOK Try.prog 119 [] [ll (L.map intC), li n] [] (.sv (lb (decide (n ∈ L))))
def Tc_iHasNLa (L : List Int) (n : Int) (x0 : SV) : St := St.mk (regsOf 17 [(1, AV.sv (li n)), (7, AV.sv (ll (List.map intC L))), (8, AV.sv (li (↑(List.length (List.map intC L)) :
 Int))), (9, AV.sv x0)]) [] 0 
def Lc_iHasNLa (L : List Int) (n : Int) (k : Nat) : St := Tc_iHasNLa L n (li (↑k : Int)) 
def Ic_iHasNLa (L : List Int) (n : Int) : Nat → St → Prop := Head (Lc_iHasNLa L n) (fun k => k ≤ List.length L ∧ List.length L ≤ 9223372036854775807 ∧ decide (n ∈ List.take k L) =
 false) fun k => List.length L - k 
def W0c_iHasNLa (L : List Int) (n : Int) : St := St.mk (regsOf 17 []) [] 0 
def W1c_iHasNLa (L : List Int) (n : Int) (x0 : SV) : St := St.mk (regsOf 17 [(4, AV.sv x0)]) [] 0 
def Yc_iHasNLa (L : List Int) (n : Int) : List (Prop × AEx × St) := [(decide (n ∈ L) = false, AEx.exit 0, W0c_iHasNLa L n), (decide (n ∈ L) = true, AEx.ret, W1c_iHasNLa L n (lb
 true))]
theorem Hc_iHasNLa {L : List Int} {n : Int} {k : Nat} {m : Nat} (h : (fun k => k ≤ List.length L ∧ List.length L ≤ 9223372036854775807 ∧ decide (n ∈ List.take k L) = false) k) (hm
 : (fun k => List.length L - k) k = m) : Ic_iHasNLa L n m (Lc_iHasNLa L n k) := hm ▸ Head.mk h
theorem Ec_iHasNLa {L : List Int} {n : Int} {k : Nat} {x0 : SV} (h0 : x0 = (li (↑k : Int))) : Tc_iHasNLa L n x0 = Lc_iHasNLa L n k := by
  rw [h0]
  rfl
theorem EW1c_iHasNLa {L : List Int} {n : Int} {x0 y0 : SV} (h0 : x0 = y0) : W1c_iHasNLa L n x0 = W1c_iHasNLa L n y0 := by rw [h0]
theorem run_c_iHasNLa (L : List Int) (n : Int) (k : Nat) : aexec Try.prog (loopAt Try.f119 0) (Lc_iHasNLa L n k) [Orc.br [Orc.cells (intC (List.getD L k default)), Orc.br
 [Orc.ghost (Ghost.sel [] [4]), Orc.out 1] [Orc.ghost (Ghost.sel [] [1, 7, 8, 9]), Orc.goto (List.length L - (k + 1)) (Lc_iHasNLa L n (k + 1))]] [Orc.ghost (Ghost.sel [] []),
 Orc.out 0]] (loopK (Ic_iHasNLa L n) (Yc_iHasNLa L n) (List.length L - k)) = ((decide ((↑k : Int) < (↑(List.length (List.map intC L)) : Int)) = true → (0 ≤ (↑k : Int) ∧ (List.map
 intC L)[Int.toNat (↑k : Int)]? = some [cI (List.getD L k 0)]) ∧ (decide (List.getD L k 0 = n) = true → decide (n ∈ L) = true ∧ W1c_iHasNLa L n (lb true) = W1c_iHasNLa L n (lb
 true)) ∧ (decide (List.getD L k 0 = n) = false → rng IntKind.i64 ((↑k : Int) + 1) ∧ List.length L - (k + 1) < List.length L - k ∧ Tc_iHasNLa L n (li ((↑k : Int) + 1)) = Lc_iHasNLa
 L n (k + 1) ∧ Ic_iHasNLa L n (List.length L - (k + 1)) (Lc_iHasNLa L n (k + 1)))) ∧ (decide ((↑k : Int) < (↑(List.length (List.map intC L)) : Int)) = false → decide (n ∈ L) =
 false ∧ W0c_iHasNLa L n = W0c_iHasNLa L n)) := by kernel_rfl
theorem Sc_iHasNLa (L : List Int) (n : Int)  : LoopSem Try.prog (loopAt Try.f119 0) (Ic_iHasNLa L n) (Yc_iHasNLa L n) := by
  refine LoopSem.ofHead wide fun k h => ⟨_, _, run_c_iHasNLa L n k, ?_⟩
  with_reducible repeat' (first | apply And.intro | exact flatI | exact flatS | exact rowLens | (intro; skip) | apply obsN | apply obsC | apply obA | apply obM | apply obB | apply svA | apply tupA | apply lcA | apply lcS | apply svC | apply liC | apply lbC | apply lsC | apply vIc | apply vBc | apply vSc | apply vLc | apply mapC | apply Hc_iHasNLa | apply Ec_iHasNLa | apply EW1c_iHasNLa)
  all_goals (try simp only [std] at *)
  all_goals (try (first | with_reducible rfl | omega | assumption | (refine (decide_eq_true ?_).symm; assumption) | (refine (decide_eq_false ?_).symm; assumption) | (refine rowGet ?_; (first | omega | (simp only [std]; omega) | grind)) | (refine getC ?_ rfl; (first | omega | (simp only [std]; omega) | grind)) | (show (_ : St) = _; rfl) | grind [take_get, getD_mem', snocI, snocS, rowSnoc]))
theorem run_c_iHasN (L : List Int) (n : Int) : aexec Try.prog (Option.getD (Func.body Try.f119) Code.skip) (entry [] [ll (List.map intC L), li n] 17) [Orc.ghost (Ghost.sel [] [1,
 7, 8, 9]), Orc.loop (List.length L - 0) (Lc_iHasNLa L n 0) (Ic_iHasNLa L n) [(decide (n ∈ L) = false, AEx.exit 0, W0c_iHasNLa L n, [Orc.fin []]), (decide (n ∈ L) = true, AEx.ret,
 W1c_iHasNLa L n (lb true), [Orc.fin []])]] (finK Try.prog [ResultVar.tmp 4] [] (AV.sv (lb (decide (n ∈ L))))) = (List.length (List.map intC L) ≤ 9223372036854775807 → Tc_iHasNLa L
 n (li 0) = Lc_iHasNLa L n 0 ∧ Ic_iHasNLa L n (List.length L - 0) (Lc_iHasNLa L n 0) ∧ LoopSem Try.prog (loopAt Try.f119 0) (Ic_iHasNLa L n) (Yc_iHasNLa L n) ∧ (decide (n ∈ L) =
 false → ObsEq [] [] ∧ AV.sv (lb false) = AV.sv (lb (decide (n ∈ L)))) ∧ (decide (n ∈ L) = true → ObsEq [] [] ∧ AV.sv (lb true) = AV.sv (lb (decide (n ∈ L)))) ∧ True) := by
 kernel_rfl
theorem c_iHasN (L : List Int) (n : Int)  : P_c_iHasN L n := by
  refine CallOK.ofRun wide (run_c_iHasN L n) Try.call119 Try.func119 rfl rfl rfl ?_
  with_reducible repeat' (first | apply And.intro | exact flatI | exact flatS | exact rowLens | (intro; skip) | apply obsN | apply obsC | apply obA | apply obM | apply obB | apply svA | apply tupA | apply lcA | apply lcS | apply svC | apply liC | apply lbC | apply lsC | apply vIc | apply vBc | apply vSc | apply vLc | apply mapC | apply Hc_iHasNLa | apply Ec_iHasNLa | apply Sc_iHasNLa | apply EW1c_iHasNLa)
  all_goals (try simp only [std] at *)
  all_goals (try (first | with_reducible rfl | omega | assumption | (refine (decide_eq_true ?_).symm; assumption) | (refine (decide_eq_false ?_).symm; assumption) | (refine rowGet ?_; (first | omega | (simp only [std]; omega) | grind)) | (refine getC ?_ rfl; (first | omega | (simp only [std]; omega) | grind)) | (show (_ : St) = _; rfl) | grind [snocI, snocS, rowSnoc]))
mutual
/-- the places of the captures of more than one form that a template names, each once -/
def rpi (C : List Capture) : Syntax → List Int → List Int
  | ⟨k, n, t, s, l⟩, o => rpis C l (if k = 1 ∧ rep C ⟨k, n, t, s, l⟩ = true ∧ fnd C ⟨k, n, t, s, l⟩ ∉ o then o ++ [fnd C ⟨k, n, t, s, l⟩] else o)
def rpis (C : List Capture) : List Syntax → List Int → List Int
  | [], o => o
  | x :: r, o => rpis C r (rpi C x o)
end
theorem rpis_eq (C : List Capture) : ∀ (l : List Syntax) (o : List Int), rpis C l o = l.foldl (fun o x => rpi C x o) o
  | [], _ => by rw [rpis]; rfl
  | x :: r, o => by rw [rpis, rpis_eq C r]; rfl
def rpi0 (C : List Capture) (t : Syntax) (o : List Int) : List Int := if t.kind = 1 ∧ rep C t = true ∧ fnd C t ∉ o then o ++ [fnd C t] else o
theorem rpi_eq (C : List Capture) (t : Syntax) (o : List Int) : rpi C t o = t.items.foldl (fun o x => rpi C x o) (rpi0 C t o) := by cases t; simp only [rpi, rpis_eq, rpi0]
theorem rpi0_len (C : List Capture) (t : Syntax) (o : List Int) : (rpi0 C t o).length ≤ o.length + 1 := by unfold rpi0; split <;> simp
theorem rpF_len (C : List Capture) : ∀ (L : List Syntax), (∀ x ∈ L, ∀ o, (rpi C x o).length ≤ o.length + sizeY x) → ∀ o, (L.foldl (fun o x => rpi C x o) o).length ≤ o.length + sumBy sizeY L
  | [], _, o => by simp [sumBy]
  | x :: r, h, o => by
    have h1 := h x List.mem_cons_self o
    have h2 := rpF_len C r (fun y hy => h y (List.mem_cons_of_mem _ hy)) (rpi C x o)
    simp only [List.foldl_cons, sumBy]; omega
theorem rpi_len (C : List Capture) : ∀ (t : Syntax) (o : List Int), (rpi C t o).length ≤ o.length + sizeY t := by
  refine Syntax.ind fun t ih o => ?_
  have h1 := rpF_len C t.items ih (rpi0 C t o)
  have h2 := rpi0_len C t o
  rw [rpi_eq, sizeY_eq]; omega
abbrev P_c_iRep (t : Syntax) (C : List Capture) (o : List Int) : Prop := CallOK Try.prog 95 [.arr true 1 (o.map intC)] [syntaxA t, ll (C.map captureC), .one (.ref 0)] [.dead, .arr true 1 ((rpi C t o).map intC)] (.sv (.one (.ref 1)))
def Tc_iRep_sLa (t : Syntax) (C : List Capture) (o : List Int) (x0 : SV) (x1 : Ob) : St := St.mk (regsOf 46 [(1, AV.sv (ll (List.map captureC C))), (2, AV.sv (SV.one (AC.ref 1))),
 (34, AV.sv (ll (List.map syntaxC (Syntax.items t)))), (35, AV.sv (li (↑(List.length (List.map syntaxC (Syntax.items t))) : Int))), (36, AV.sv x0)]) [Ob.dead, x1] 1 
def Lc_iRep_sLa (t : Syntax) (C : List Capture) (o : List Int) (k : Nat) : St := Tc_iRep_sLa t C o (li (↑k : Int)) (Ob.arr true 1 (List.map intC (List.foldl (fun o x => rpi C x o)
 (rpi0 C t o) (List.take k (Syntax.items t))))) 
def Ic_iRep_sLa (t : Syntax) (C : List Capture) (o : List Int) : Nat → St → Prop := Head (Lc_iRep_sLa t C o) (fun k => k ≤ List.length (Syntax.items t) ∧ List.length (Syntax.items
 t) ≤ 9223372036854775807) fun k => List.length (Syntax.items t) - k 
def W0c_iRep_sLa (t : Syntax) (C : List Capture) (o : List Int) (x0 : Ob) : St := St.mk (regsOf 46 [(2, AV.sv (SV.one (AC.ref 1)))]) [Ob.dead, x0] 1 
def Yc_iRep_sLa (t : Syntax) (C : List Capture) (o : List Int) : List (Prop × AEx × St) := [(True, AEx.exit 0, W0c_iRep_sLa t C o (Ob.arr true 1 (List.map intC (rpi C t o))))]
theorem Hc_iRep_sLa {t : Syntax} {C : List Capture} {o : List Int} {k : Nat} {m : Nat} (h : (fun k => k ≤ List.length (Syntax.items t) ∧ List.length (Syntax.items t) ≤
 9223372036854775807) k) (hm : (fun k => List.length (Syntax.items t) - k) k = m) : Ic_iRep_sLa t C o m (Lc_iRep_sLa t C o k) := hm ▸ Head.mk h
theorem Ec_iRep_sLa {t : Syntax} {C : List Capture} {o : List Int} {k : Nat} {x0 : SV} {x1 : Ob} (h0 : x0 = (li (↑k : Int))) (h1 : x1 = (Ob.arr true 1 (List.map intC (List.foldl
 (fun o x => rpi C x o) (rpi0 C t o) (List.take k (Syntax.items t)))))) : Tc_iRep_sLa t C o x0 x1 = Lc_iRep_sLa t C o k := by
  rw [h0, h1]
  rfl
theorem EW0c_iRep_sLa {t : Syntax} {C : List Capture} {o : List Int} {x0 y0 : Ob} (h0 : x0 = y0) : W0c_iRep_sLa t C o x0 = W0c_iRep_sLa t C o y0 := by rw [h0]
theorem run_c_iRep_sLa (t : Syntax) (C : List Capture) (o : List Int) (k : Nat) : aexec Try.prog (loopAt Try.f95 0) (Lc_iRep_sLa t C o k) [Orc.br [Orc.cells (syntaxF (List.getD
 (Syntax.items t) k default)), Orc.call [Mode.rd, Mode.rd, Mode.own true 1] [Ob.dead, Ob.arr true 1 (List.map intC (rpi C (List.getD (Syntax.items t) k default) (List.foldl (fun o
 x => rpi C x o) (rpi0 C t o) (List.take k (Syntax.items t)))))] (AV.sv (SV.one (AC.ref 1))), Orc.ghost (Ghost.sel [0, 4] [1, 2, 34, 35, 36]), Orc.goto (List.length (Syntax.items
 t) - (k + 1)) (Lc_iRep_sLa t C o (k + 1))] [Orc.ghost (Ghost.sel [0, 1] [2]), Orc.out 0]] (loopK (Ic_iRep_sLa t C o) (Yc_iRep_sLa t C o) (List.length (Syntax.items t) - k)) =
 ((decide ((↑k : Int) < (↑(List.length (List.map syntaxC (Syntax.items t))) : Int)) = true → (0 ≤ (↑k : Int) ∧ (List.map syntaxC (Syntax.items t))[Int.toNat (↑k : Int)]? = some
 (syntaxF (List.getD (Syntax.items t) k default))) ∧ P_c_iRep (List.getD (Syntax.items t) k default) C (List.foldl (fun o x => rpi C x o) (rpi0 C t o) (List.take k (Syntax.items
 t))) ∧ rng IntKind.i64 ((↑k : Int) + 1) ∧ List.length (Syntax.items t) - (k + 1) < List.length (Syntax.items t) - k ∧ Tc_iRep_sLa t C o (li ((↑k : Int) + 1)) (Ob.arr true 1
 (List.map intC (rpi C (List.getD (Syntax.items t) k default) (List.foldl (fun o x => rpi C x o) (rpi0 C t o) (List.take k (Syntax.items t)))))) = Lc_iRep_sLa t C o (k + 1) ∧
 Ic_iRep_sLa t C o (List.length (Syntax.items t) - (k + 1)) (Lc_iRep_sLa t C o (k + 1))) ∧ (decide ((↑k : Int) < (↑(List.length (List.map syntaxC (Syntax.items t))) : Int)) = false
 → True ∧ W0c_iRep_sLa t C o (Ob.arr true 1 (List.map intC (List.foldl (fun o x => rpi C x o) (rpi0 C t o) (List.take k (Syntax.items t))))) = W0c_iRep_sLa t C o (Ob.arr true 1
 (List.map intC (rpi C t o))))) := by kernel_rfl
theorem Sc_iRep_sLa (t : Syntax) (C : List Capture) (o : List Int) (h : List.length o + sizeY t ≤ 2147483647) (ih : ∀ (z : Syntax), z ∈ Syntax.items t → ∀ (C : List Capture) (o :
 List Int), List.length o + sizeY z ≤ 2147483647 → P_c_iRep z C o)  : LoopSem Try.prog (loopAt Try.f95 0) (Ic_iRep_sLa t C o) (Yc_iRep_sLa t C o) := by
  refine LoopSem.ofHead wide fun k h => ⟨_, _, run_c_iRep_sLa t C o k, ?_⟩
  have g1 := rpF_len C (t.items.take k) (fun x _ o => rpi_len C x o) (rpi0 C t o)
  have g2 := rpi0_len C t o
  have g3 := @size_item t k
  with_reducible repeat' (first | apply And.intro | exact flatI | exact flatS | exact rowLens | exact ih | (intro; skip) | apply obsN | apply obsC | apply obA | apply obM | apply obB | apply svA | apply tupA | apply lcA | apply lcS | apply svC | apply liC | apply lbC | apply lsC | apply vIc | apply vBc | apply vSc | apply vLc | apply mapC | apply Hc_iRep_sLa | apply Ec_iRep_sLa | apply EW0c_iRep_sLa | apply c_iFind | apply c_iHasN | apply ih)
  all_goals (try simp only [std] at *)
  all_goals (try (first | with_reducible apply c_iFind | with_reducible apply c_iHasN | with_reducible apply ih | (simp only [← List.map_append]; first | with_reducible apply c_iFind | with_reducible apply c_iHasN | with_reducible apply ih)))
  all_goals (try (first | with_reducible rfl | omega | assumption | (refine (decide_eq_true ?_).symm; assumption) | (refine (decide_eq_false ?_).symm; assumption) | (refine rowGet ?_; (first | omega | (simp only [std]; omega) | grind)) | (refine getC ?_ rfl; (first | omega | (simp only [std]; omega) | grind)) | (show (_ : St) = _; rfl) | grind [rpi_eq, foldl_step, getD_mem', snocI, snocS, rowSnoc]))
abbrev a1_c_iRep_s (t : Syntax) (C : List Capture) (o : List Int) := (True → ObsEq [Ob.dead, Ob.arr true 1 (List.map intC (rpi C t o))] [Ob.dead, Ob.arr true 1 (List.map intC (rpi
 C t o))] ∧ AV.sv (SV.one (AC.ref 1)) = AV.sv (SV.one (AC.ref 1)))
abbrev a2_c_iRep_s (t : Syntax) (C : List Capture) := (if Syntax.kind t = 1 then fnd C t else (-1 : Int))
abbrev a3_c_iRep_s (t : Syntax) (C : List Capture) (o : List Int) := (List.length (List.map syntaxC (Syntax.items t)) ≤ 9223372036854775807 → Tc_iRep_sLa t C o (li 0) (Ob.arr true
 1 (List.map intC o)) = Lc_iRep_sLa t C o 0 ∧ Ic_iRep_sLa t C o (List.length (Syntax.items t) - 0) (Lc_iRep_sLa t C o 0) ∧ LoopSem Try.prog (loopAt Try.f95 0) (Ic_iRep_sLa t C o)
 (Yc_iRep_sLa t C o) ∧ (a1_c_iRep_s t C o) ∧ True)
abbrev a4_c_iRep_s (t : Syntax) (C : List Capture) (o : List Int) := [(True, AEx.exit 0, W0c_iRep_sLa t C o (Ob.arr true 1 (List.map intC (rpi C t o))), [Orc.fin [1]])]
theorem run_c_iRep_s (t : Syntax) (C : List Capture) (o : List Int) : aexec Try.prog (Option.getD (Func.body Try.f95) Code.skip) (entry [Ob.arr true 1 (List.map intC o)] [syntaxA
 t, ll (List.map captureC C), SV.one (AC.ref 0)] 46) [Orc.call [Mode.rd, Mode.rd] [] (AV.sv (li (a2_c_iRep_s t C))), Orc.br [Orc.cells (captureF (List.getD C (Int.toNat
 (a2_c_iRep_s t C)) default)), Orc.br [Orc.call [Mode.rd, Mode.rd] [] (AV.sv (lb (decide ((a2_c_iRep_s t C) ∈ o)))), Orc.br [Orc.ghost (Ghost.sel [0, 3] [1, 2, 34, 35, 36]),
 Orc.loop (List.length (Syntax.items t) - 0) (Lc_iRep_sLa t C o 0) (Ic_iRep_sLa t C o) (a4_c_iRep_s t C o)] [Orc.ghost (Ghost.move 0), Orc.ghost (Ghost.sel [0, 2] [1, 2, 34, 35,
 36]), Orc.loop (List.length (Syntax.items t) - 0) (Lc_iRep_sLa t C o 0) (Ic_iRep_sLa t C o) (a4_c_iRep_s t C o)]] [Orc.bool false, Orc.ghost (Ghost.move 0), Orc.ghost (Ghost.sel
 [0, 2] [1, 2, 34, 35, 36]), Orc.loop (List.length (Syntax.items t) - 0) (Lc_iRep_sLa t C o 0) (Ic_iRep_sLa t C o) (a4_c_iRep_s t C o)]] [Orc.bool false, Orc.bool false, Orc.ghost
 (Ghost.move 0), Orc.ghost (Ghost.sel [0, 2] [1, 2, 34, 35, 36]), Orc.loop (List.length (Syntax.items t) - 0) (Lc_iRep_sLa t C o 0) (Ic_iRep_sLa t C o) (a4_c_iRep_s t C o)]] (finK
 Try.prog [ResultVar.tmp 6] [Ob.dead, Ob.arr true 1 (List.map intC (rpi C t o))] (AV.sv (SV.one (AC.ref 1)))) = (P_c_iFind C t ∧ (decide (0 ≤ if Syntax.kind t = 1 then fnd C t else
 (-1 : Int)) = true → ((0 ≤ if Syntax.kind t = 1 then fnd C t else (-1 : Int)) ∧ (List.map captureC C)[Int.toNat (a2_c_iRep_s t C)]? = some (captureF (List.getD C (Int.toNat
 (a2_c_iRep_s t C)) default))) ∧ (decide (0 < Capture.depth (List.getD C (Int.toNat (a2_c_iRep_s t C)) default)) = true → P_c_iHasN o (a2_c_iRep_s t C) ∧ ((!decide ((a2_c_iRep_s t
 C) ∈ o)) = true → (List.length (List.map intC o) + 1) * 8 ≤ 140737488355328 ∧ (List.length (List.map syntaxC (Syntax.items t)) ≤ 9223372036854775807 → Tc_iRep_sLa t C o (li 0)
 (Ob.arr true 1 (List.map intC o ++ [[cI (a2_c_iRep_s t C)]])) = Lc_iRep_sLa t C o 0 ∧ Ic_iRep_sLa t C o (List.length (Syntax.items t) - 0) (Lc_iRep_sLa t C o 0) ∧ LoopSem Try.prog
 (loopAt Try.f95 0) (Ic_iRep_sLa t C o) (Yc_iRep_sLa t C o) ∧ (a1_c_iRep_s t C o) ∧ True)) ∧ ((!decide ((a2_c_iRep_s t C) ∈ o)) = false → List.length (List.map syntaxC
 (Syntax.items t)) ≤ 9223372036854775807 → Tc_iRep_sLa t C o (li 0) (Ob.arr true 1 (List.map intC o)) = Lc_iRep_sLa t C o 0 ∧ Ic_iRep_sLa t C o (List.length (Syntax.items t) - 0)
 (Lc_iRep_sLa t C o 0) ∧ LoopSem Try.prog (loopAt Try.f95 0) (Ic_iRep_sLa t C o) (Yc_iRep_sLa t C o) ∧ (a1_c_iRep_s t C o) ∧ True)) ∧ (decide (0 < Capture.depth (List.getD C
 (Int.toNat (a2_c_iRep_s t C)) default)) = false → false = false ∧ (a3_c_iRep_s t C o))) ∧ (decide (0 ≤ if Syntax.kind t = 1 then fnd C t else (-1 : Int)) = false → false = false ∧
 false = false ∧ (a3_c_iRep_s t C o))) := by kernel_rfl
theorem c_iRep_s (t : Syntax) (C : List Capture) (o : List Int) (h : o.length + sizeY t ≤ 2147483647) (ih : ∀ z ∈ t.items, ∀ (C : List Capture) (o : List Int) (h : o.length + sizeY
 z ≤ 2147483647), P_c_iRep z C o)  : P_c_iRep t C o := by
  refine CallOK.ofRun wide (run_c_iRep_s t C o) Try.call95 Try.func95 rfl rfl rfl ?_
  try delta a1_c_iRep_s a2_c_iRep_s a3_c_iRep_s a4_c_iRep_s
  have g1 := fnd_lt C t
  have g2 := sizeY_eq t
  have g3 : rep C t = (decide (0 ≤ fnd C t) && decide (0 < (capOf C t).depth)) := rfl
  have g4 : capOf C t = C.getD (fnd C t).toNat default := rfl
  with_reducible repeat' (first | apply And.intro | exact flatI | exact flatS | exact rowLens | exact ih | (intro; skip) | apply obsN | apply obsC | apply obA | apply obM | apply obB | apply svA | apply tupA | apply lcA | apply lcS | apply svC | apply liC | apply lbC | apply lsC | apply vIc | apply vBc | apply vSc | apply vLc | apply mapC | apply Hc_iRep_sLa | apply Ec_iRep_sLa | apply Sc_iRep_sLa | apply EW0c_iRep_sLa | apply c_iFind | apply c_iHasN)
  all_goals (try simp only [std] at *)
  all_goals (try (first | with_reducible apply c_iFind | with_reducible apply c_iHasN | with_reducible apply ih | (simp only [← List.map_append]; first | with_reducible apply c_iFind | with_reducible apply c_iHasN | with_reducible apply ih)))
  all_goals (try (first | with_reducible rfl | omega | assumption | (refine (decide_eq_true ?_).symm; assumption) | (refine (decide_eq_false ?_).symm; assumption) | (refine rowGet ?_; (first | omega | (simp only [std]; omega) | grind)) | (refine getC ?_ rfl; (first | omega | (simp only [std]; omega) | grind)) | (show (_ : St) = _; rfl) | grind [rpi0, snocI, snocS, rowSnoc]))
theorem c_iRep (t : Syntax) : ∀ (C : List Capture) (o : List Int) (h : o.length + sizeY t ≤ 2147483647), P_c_iRep t C o := Syntax.ind (P := fun t => ∀ (C : List Capture) (o : List Int) (h : o.length + sizeY t ≤ 2147483647), P_c_iRep t C o) (fun t ih C o h => c_iRep_s t C o h ih) t
def itr (f : Nat → Int → Syntax × Bool × Int) : Nat → Int → List Syntax → List Syntax × Bool × Int
  | 0, m, O => (O, true, m)
  | k + 1, m, O => let p := itr f k m O; if p.2.1 = true then (p.1 ++ [(f k p.2.2).1], (f k p.2.2).2.1, (f k p.2.2).2.2) else p
def zY : Syntax := ⟨0, 0, mkS [], [], []⟩
mutual
/-- what the reference builds of a template: the form, whether all went well, the nodes that are left -/
def bld : Syntax → List Capture → Int → Syntax × Bool × Int
  | ⟨k, n, x, s, l⟩, C, m => if m - 1 < 0 then (zY, false, m - 1) else if k = 1 then
      (if isDots ⟨k, n, x, s, l⟩ = true ∨ fnd C ⟨k, n, x, s, l⟩ < 0 then (⟨k, n, x, s, l⟩, !isDots ⟨k, n, x, s, l⟩, m - 1)
       else if (capOf C ⟨k, n, x, s, l⟩).depth ≠ 0 then (zY, false, m)
       else if (sizeY (capOf C ⟨k, n, x, s, l⟩).form : Int) ≤ m then ((capOf C ⟨k, n, x, s, l⟩).form, true, max (m - sizeY (capOf C ⟨k, n, x, s, l⟩).form) (-1))
       else (zY, false, max (m - sizeY (capOf C ⟨k, n, x, s, l⟩).form) (-1)))
    else if (blds l C (m - 1) []).2.1 = true then (⟨k, n, x, [], (blds l C (m - 1) []).1⟩, true, (blds l C (m - 1) []).2.2) else (zY, false, (blds l C (m - 1) []).2.2)
def blds : List Syntax → List Capture → Int → List Syntax → List Syntax × Bool × Int
  | [], _, m, O => (O, true, m)
  | [x], C, m, O => if (bld x C m).2.1 = true then (O ++ [(bld x C m).1], true, (bld x C m).2.2) else (O, false, (bld x C m).2.2)
  | x :: y :: r, C, m, O => if isDots y = true then
      (if (cnOK C (idsY x []) (idsY x []).length && decide (0 ≤ cnN C (idsY x []) (idsY x []).length)) = true then
        (if (itr (fun j m => bld x (stpTo C j (idsY x []) (idsY x []).length) m) (cnN C (idsY x []) (idsY x []).length).toNat m O).2.1 = true then
          blds r C (itr (fun j m => bld x (stpTo C j (idsY x []) (idsY x []).length) m) (cnN C (idsY x []) (idsY x []).length).toNat m O).2.2 (itr (fun j m => bld x (stpTo C j (idsY x []) (idsY x []).length) m) (cnN C (idsY x []) (idsY x []).length).toNat m O).1
         else itr (fun j m => bld x (stpTo C j (idsY x []) (idsY x []).length) m) (cnN C (idsY x []) (idsY x []).length).toNat m O)
       else (O, false, m))
    else if (bld x C m).2.1 = true then blds (y :: r) C (bld x C m).2.2 (O ++ [(bld x C m).1]) else (O, false, (bld x C m).2.2)
end
end Go.Proofs.Ytegbadciefljcaa
end
section
namespace Go.Proofs.Ytegbadciefljcaa
open Go Go.Proofs.Ytegbadciefljcaa.Ab
set_option linter.unusedVariables false
set_option linter.unusedSimpArgs false
def cnB (C : List Capture) (x : Syntax) : Bool := cnOK C (idsY x []) (idsY x []).length && decide (0 ≤ cnN C (idsY x []) (idsY x []).length)
abbrev bN (C : List Capture) (x : Syntax) : Nat := (cnN C (idsY x []) (idsY x []).length).toNat
abbrev stpX (C : List Capture) (x : Syntax) (j : Nat) : List Capture := stpTo C j (idsY x []) (idsY x []).length
def bI (C : List Capture) (x : Syntax) (j : Nat) (q : Int) (O : List Syntax) : List Syntax × Bool × Int := itr (fun j q => bld x (stpX C x j) q) j q O
def bJ (C : List Capture) (x : Syntax) (j : Nat) (q : Int) (O : List Syntax) : List Syntax × Bool × Int := if cnB C x = true then bI C x j q O else (O, false, q)
def bR (C : List Capture) (x : Syntax) (q : Int) (O : List Syntax) : List Syntax × Bool × Int := bJ C x (bN C x) q O
theorem bld_eq (t : Syntax) (C : List Capture) (q : Int) : bld t C q = if q - 1 < 0 then (zY, false, q - 1) else if t.kind = 1 then
      (if isDots t = true ∨ fnd C t < 0 then (t, !isDots t, q - 1)
       else if (capOf C t).depth ≠ 0 then (zY, false, q)
       else if (sizeY (capOf C t).form : Int) ≤ q then ((capOf C t).form, true, max (q - sizeY (capOf C t).form) (-1))
       else (zY, false, max (q - sizeY (capOf C t).form) (-1)))
    else if (blds t.items C (q - 1) []).2.1 = true then (⟨t.kind, t.number, t.text, [], (blds t.items C (q - 1) []).1⟩, true, (blds t.items C (q - 1) []).2.2) else (zY, false, (blds t.items C (q - 1) []).2.2) := by
  cases t; rw [bld]
theorem blds_nil (C : List Capture) (q : Int) (O : List Syntax) : blds [] C q O = (O, true, q) := by rw [blds]
theorem blds_one (x : Syntax) (C : List Capture) (q : Int) (O : List Syntax) : blds [x] C q O = if (bld x C q).2.1 = true then blds [] C (bld x C q).2.2 (O ++ [(bld x C q).1]) else (O, false, (bld x C q).2.2) := by
  rw [blds_nil, blds]
theorem blds_more (x y : Syntax) (r : List Syntax) (C : List Capture) (q : Int) (O : List Syntax) : blds (x :: y :: r) C q O = if isDots y = true then (if (bR C x q O).2.1 = true then blds r C (bR C x q O).2.2 (bR C x q O).1 else bR C x q O)
    else if (bld x C q).2.1 = true then blds (y :: r) C (bld x C q).2.2 (O ++ [(bld x C q).1]) else (O, false, (bld x C q).2.2) := by
  rw [blds]
  split
  · unfold bR bJ cnB
    split
    · rfl
    · rfl
  · rfl
theorem blds_end {l : List Syntax} {k : Nat} {C : List Capture} {q : Int} {O : List Syntax} (h : l.length ≤ k) : blds (l.drop k) C q O = (O, true, q) := by
  rw [List.drop_eq_nil_of_le h, blds_nil]
theorem blds_plain {l : List Syntax} {k : Nat} {C : List Capture} {q : Int} {O : List Syntax} (h : k < l.length) (hd : l.length ≤ k + 1 ∨ isDots (l.getD (k + 1) default) = false) :
    blds (l.drop k) C q O = if (bld (l.getD k default) C q).2.1 = true then blds (l.drop (k + 1)) C (bld (l.getD k default) C q).2.2 (O ++ [(bld (l.getD k default) C q).1]) else (O, false, (bld (l.getD k default) C q).2.2) := by
  rw [drop_get h]
  rcases Nat.lt_or_ge (k + 1) l.length with h1 | h1
  · rw [drop_get h1, blds_more, if_neg (by rcases hd with h2 | h2 <;> first | (exfalso; omega) | (rw [h2]; decide))]
  · rw [List.drop_eq_nil_of_le h1, blds_one]
theorem blds_dots {l : List Syntax} {k : Nat} {C : List Capture} {q : Int} {O : List Syntax} (h : k + 1 < l.length) (hd : isDots (l.getD (k + 1) default) = true) :
    blds (l.drop k) C q O = if (bR C (l.getD k default) q O).2.1 = true then blds (l.drop (k + 1 + 1)) C (bR C (l.getD k default) q O).2.2 (bR C (l.getD k default) q O).1 else bR C (l.getD k default) q O := by
  rw [drop_get (by omega : k < l.length), drop_get h, blds_more, if_pos hd]
theorem itr_bd {f : Nat → Int → Syntax × Bool × Int} (hf : ∀ j q, 0 ≤ q → (f j q).2.1 = true → 0 ≤ (f j q).2.2 ∧ (f j q).2.2 + 1 ≤ q) : ∀ (j : Nat) (q : Int) (O : List Syntax), 0 ≤ q → (itr f j q O).2.1 = true → 0 ≤ (itr f j q O).2.2 ∧ ((itr f j q O).1.length : Int) + (itr f j q O).2.2 ≤ O.length + q
  | 0, q, O, h0, _ => by simp only [itr]; omega
  | j + 1, q, O, h0, h => by
    have ih := itr_bd hf j q O h0
    simp only [itr] at h ⊢
    by_cases e : (itr f j q O).2.1 = true
    · rw [if_pos e] at h ⊢
      have h1 := ih e
      have h2 := hf j _ h1.1 h
      simp only [List.length_append, List.length_singleton]; omega
    · rw [if_neg e] at h; exact absurd h e
theorem itr_step (f : Nat → Int → Syntax × Bool × Int) (j : Nat) (q : Int) (O : List Syntax) (h : (itr f j q O).2.1 = true) : itr f (j + 1) q O = ((itr f j q O).1 ++ [(f j (itr f j q O).2.2).1], (f j (itr f j q O).2.2).2.1, (f j (itr f j q O).2.2).2.2) := by
  rw [itr, if_pos h]
theorem itr_stop (f : Nat → Int → Syntax × Bool × Int) (j : Nat) (q : Int) (O : List Syntax) (h : (itr f j q O).2.1 = false) : ∀ n, j ≤ n → itr f n q O = itr f j q O
  | 0, hn => by obtain rfl : j = 0 := by omega
                rfl
  | n + 1, hn => by
    by_cases e : j = n + 1
    · rw [e]
    · have := itr_stop f j q O h n (by omega)
      rw [itr, this, h]; rfl
theorem blds_bd : ∀ (l : List Syntax), (∀ x ∈ l, ∀ C q, 0 ≤ q → (bld x C q).2.1 = true → 0 ≤ (bld x C q).2.2 ∧ (bld x C q).2.2 + 1 ≤ q) → ∀ C q O, 0 ≤ q → (blds l C q O).2.1 = true → 0 ≤ (blds l C q O).2.2 ∧ ((blds l C q O).1.length : Int) + (blds l C q O).2.2 ≤ O.length + q
  | [], _, C, q, O, h0, _ => by rw [blds_nil]; simp only; omega
  | [x], hx, C, q, O, h0, h => by
    rw [blds_one] at h ⊢
    by_cases e : (bld x C q).2.1 = true
    · rw [if_pos e] at h ⊢
      have h1 := hx x List.mem_cons_self C q h0 e
      have h2 := blds_bd [] (fun _ h => by cases h) C _ (O ++ [(bld x C q).1]) h1.1 h
      simp only [List.length_append, List.length_singleton] at h2; omega
    · rw [if_neg e] at h; cases h
  | x :: y :: r, hx, C, q, O, h0, h => by
    rw [blds_more] at h ⊢
    by_cases d : isDots y = true
    · rw [if_pos d] at h ⊢
      by_cases e : (bR C x q O).2.1 = true
      · rw [if_pos e] at h ⊢
        have h1 : 0 ≤ (bR C x q O).2.2 ∧ ((bR C x q O).1.length : Int) + (bR C x q O).2.2 ≤ O.length + q := by
          unfold bR bJ at e ⊢
          by_cases c : cnB C x = true
          · rw [if_pos c] at e ⊢
            exact itr_bd (fun j q => hx x List.mem_cons_self _ q) _ q O h0 e
          · rw [if_neg c] at e; cases e
        have h2 := blds_bd r (fun z hz => hx z (List.mem_cons_of_mem _ (List.mem_cons_of_mem _ hz))) C _ (bR C x q O).1 h1.1 h
        omega
      · rw [if_neg e] at h; exact absurd h e
    · rw [if_neg d] at h ⊢
      by_cases e : (bld x C q).2.1 = true
      · rw [if_pos e] at h ⊢
        have h1 := hx x List.mem_cons_self C q h0 e
        have h2 := blds_bd (y :: r) (fun z hz => hx z (List.mem_cons_of_mem _ hz)) C _ (O ++ [(bld x C q).1]) h1.1 h
        simp only [List.length_append, List.length_singleton] at h2; omega
      · rw [if_neg e] at h; cases h
theorem bld_bd : ∀ (t : Syntax) (C : List Capture) (q : Int), 0 ≤ q → (bld t C q).2.1 = true → 0 ≤ (bld t C q).2.2 ∧ (bld t C q).2.2 + 1 ≤ q := by
  refine Syntax.ind fun t ih C q h0 h => ?_
  have h3 := sizeY_eq (capOf C t).form
  rw [bld_eq] at h ⊢
  by_cases c1 : q - 1 < 0
  · rw [if_pos c1] at h; cases h
  rw [if_neg c1] at h ⊢
  by_cases c2 : t.kind = 1
  · rw [if_pos c2] at h ⊢
    by_cases c3 : isDots t = true ∨ fnd C t < 0
    · rw [if_pos c3]; simp only; omega
    · rw [if_neg c3] at h ⊢
      by_cases c4 : (capOf C t).depth ≠ 0
      · rw [if_pos c4] at h; cases h
      · rw [if_neg c4] at h ⊢
        by_cases c5 : (sizeY (capOf C t).form : Int) ≤ q
        · rw [if_pos c5]; simp only; omega
        · rw [if_neg c5] at h; cases h
  · rw [if_neg c2] at h ⊢
    by_cases c6 : (blds t.items C (q - 1) []).2.1 = true
    · rw [if_pos c6]
      have := blds_bd t.items ih C (q - 1) [] (by omega) c6
      simp only [List.length_nil] at this ⊢; omega
    · rw [if_neg c6] at h; cases h
theorem bI_bd (C : List Capture) (x : Syntax) (j : Nat) (q : Int) (O : List Syntax) (h0 : 0 ≤ q) (h : (bI C x j q O).2.1 = true) : 0 ≤ (bI C x j q O).2.2 ∧ ((bI C x j q O).1.length : Int) + (bI C x j q O).2.2 ≤ O.length + q :=
  itr_bd (fun j q => bld_bd x _ q) j q O h0 h
theorem bJ_bd (C : List Capture) (x : Syntax) (j : Nat) (q : Int) (O : List Syntax) (h0 : 0 ≤ q) (h : (bJ C x j q O).2.1 = true) : 0 ≤ (bJ C x j q O).2.2 ∧ ((bJ C x j q O).1.length : Int) + (bJ C x j q O).2.2 ≤ O.length + q ∧ cnB C x = true := by
  unfold bJ at h ⊢
  by_cases c : cnB C x = true
  · rw [if_pos c] at h ⊢; exact ⟨(bI_bd C x j q O h0 h).1, (bI_bd C x j q O h0 h).2, c⟩
  · rw [if_neg c] at h; cases h
theorem bJ_zero (C : List Capture) (x : Syntax) (q : Int) (O : List Syntax) : bJ C x 0 q O = (O, cnB C x, q) := by
  unfold bJ bI itr
  cases h : cnB C x <;> simp
theorem bJ_step (C : List Capture) (x : Syntax) (j : Nat) (q : Int) (O : List Syntax) (h : (bJ C x j q O).2.1 = true) : bJ C x (j + 1) q O = ((bJ C x j q O).1 ++ [(bld x (stpX C x j) (bJ C x j q O).2.2).1], (bld x (stpX C x j) (bJ C x j q O).2.2).2.1, (bld x (stpX C x j) (bJ C x j q O).2.2).2.2) := by
  unfold bJ at h ⊢
  by_cases c : cnB C x = true
  · simp only [if_pos c] at h ⊢; exact itr_step _ j q O h
  · rw [if_neg c] at h; cases h
theorem bJ_stop (C : List Capture) (x : Syntax) (j : Nat) (q : Int) (O : List Syntax) (h : (bJ C x j q O).2.1 = false) (hn : j ≤ bN C x) : bR C x q O = bJ C x j q O := by
  unfold bR bJ at *
  by_cases c : cnB C x = true
  · simp only [if_pos c] at h ⊢; exact itr_stop _ j q O h _ hn
  · rw [if_neg c, if_neg c]
theorem bJ_end (C : List Capture) (x : Syntax) (j : Nat) (q : Int) (O : List Syntax) (hn : j = bN C x) : bR C x q O = bJ C x j q O := by rw [hn]; rfl
theorem cn_all {C : List Capture} {I : List Syntax} : ∀ (m j : Nat), j < m → cnOK C I m = true → rep C (I.getD j default) = true → ((capOf C (I.getD j default)).each.length : Int) = cnN C I m
  | 0, j, h, _, _ => by omega
  | m + 1, j, h, ht, hr => by
    simp only [cnOK, Bool.and_eq_true, Bool.or_eq_true, Bool.not_eq_true', decide_eq_true_eq] at ht
    simp only [cnN]
    by_cases e : j = m
    · subst e; rw [if_pos hr]
    · have ih := cn_all m j (by omega) ht.1 hr
      split
      · rename_i h2
        rcases ht.2 with (h3 | h3) | h3
        · rw [h2] at h3; cases h3
        · omega
        · omega
      · exact ih
theorem cnB_each {C : List Capture} {x : Syntax} (h : cnB C x = true) {y : Syntax} (hy : y ∈ idsY x []) (h1 : 0 ≤ fnd C y) (h2 : 0 < (C.getD (fnd C y).toNat default).depth) : (C.getD (fnd C y).toNat default).each.length = bN C x := by
  simp only [cnB, Bool.and_eq_true, decide_eq_true_eq] at h
  obtain ⟨j, hj, rfl⟩ := List.getElem_of_mem hy
  have e : (idsY x [])[j] = (idsY x []).getD j default := by simp [hj]
  rw [e] at h1 h2 ⊢
  have := cn_all (idsY x []).length j hj h.1 (by simp only [rep, capOf, Bool.and_eq_true]; exact ⟨by first | exact h1 | exact decide_eq_true h1, by first | exact h2 | exact decide_eq_true h2⟩)
  simp only [capOf] at this
  simp only [bN]; omega
theorem each_w {C : List Capture} (hC : ∀ z ∈ C, wP z ≤ 1048576) (i a : Nat) : wP ((C.getD i default).each.getD a default) ≤ 1048576 := by
  have h0 : wP (default : Capture) = 0 := rfl
  rcases Nat.lt_or_ge a (C.getD i default).each.length with h1 | h1
  · have h2 := sumBy_mem wP (getD_mem' h1)
    have h3 := wP_eq (C.getD i default)
    rcases Nat.lt_or_ge i C.length with h4 | h4
    · have := hC _ (getD_mem' h4); omega
    · have e : C.getD i default = default := by simp [h4]
      have e2 : (default : Capture).each.length = 0 := rfl
      rw [e, e2] at h1; omega
  · have e : (C.getD i default).each.getD a default = default := by rw [List.getD_eq_getElem?_getD, List.getElem?_eq_none h1]; rfl
    rw [e, h0]; omega
theorem stpL_w {C : List Capture} (hC : ∀ z ∈ C, wP z ≤ 1048576) (a : Nat) : ∀ I, ∀ z ∈ stpL C a I, wP z ≤ 1048576
  | [], z, h => hC z h
  | x :: r, z, h => by
    simp only [stpL] at h
    split at h
    · rcases List.mem_or_eq_of_mem_set h with h | h
      · exact stpL_w hC a r z h
      · rw [h]; exact each_w hC _ _
    · exact stpL_w hC a r z h
theorem stpX_w {C : List Capture} (hC : ∀ z ∈ C, wP z ≤ 1048576) (x : Syntax) (j : Nat) : ∀ z ∈ stpX C x j, wP z ≤ 1048576 := stpL_w hC j _
theorem stpX_len (C : List Capture) (x : Syntax) (j : Nat) : (stpX C x j).length = C.length := stpL_len C j _
theorem capOf_w {C : List Capture} (hC : ∀ z ∈ C, wP z ≤ 1048576) {t : Syntax} (h : 0 ≤ fnd C t) : wY (capOf C t).form ≤ 1048576 := by
  have h1 := fnd_lt C t
  have h2 := hC (capOf C t) (getD_mem' (by omega))
  have h3 := wP_eq (capOf C t)
  omega
def lnI (C : List Capture) (i : Int) : Int := ((C.getD i.toNat default).each.length : Int)
abbrev rpX (C : List Capture) (x : Syntax) : List Int := rpi C x []
def rqA (C : List Capture) (I : List Int) (n : Int) : Bool := I.all fun i => decide (lnI C i = n)
def rqB (C : List Capture) (x : Syntax) : Bool := !decide ((rpX C x).length = 0) && rqA C (rpX C x) (lnI C ((rpX C x).getD 0 default))
abbrev rqN (C : List Capture) (x : Syntax) : Nat := (C.getD ((rpX C x).getD 0 default).toNat default).each.length
def stqT (C : List Capture) (a : Nat) (I : List Int) : List Capture := I.foldl (fun O i => O.set i.toNat ((C.getD i.toNat default).each.getD a default)) C
abbrev stq (C : List Capture) (x : Syntax) (a : Nat) : List Capture := stqT C a (rpX C x)
theorem stqT_len (C : List Capture) (a : Nat) (I : List Int) : (stqT C a I).length = C.length := by
  have : ∀ (I : List Int) (O : List Capture), (I.foldl (fun O i => O.set i.toNat ((C.getD i.toNat default).each.getD a default)) O).length = O.length := by
    intro I
    induction I with
    | nil => intro O; rfl
    | cons x r ih => intro O; rw [List.foldl_cons, ih, List.length_set]
  exact this I C
theorem stqT_step {C : List Capture} {a : Nat} {I : List Int} {k : Nat} (h : k < I.length) : stqT C a (I.take (k + 1)) = (stqT C a (I.take k)).set (I.getD k default).toNat ((C.getD (I.getD k default).toNat default).each.getD a default) := by
  unfold stqT; rw [foldl_step _ _ h]
mutual
/-- what the program builds of a template: the form, whether all went well, the nodes that are left -/
def bli : Syntax → List Capture → Int → Syntax × Bool × Int
  | ⟨k, n, x, s, l⟩, C, m => if k = 1 ∧ 0 ≤ fnd C ⟨k, n, x, s, l⟩ then
      (if (capOf C ⟨k, n, x, s, l⟩).depth ≠ 0 then (zY, false, m)
       else if isSyn (capOf C ⟨k, n, x, s, l⟩).form = true then ((capOf C ⟨k, n, x, s, l⟩).form, decide (0 ≤ m - sizeY (capOf C ⟨k, n, x, s, l⟩).form), m - sizeY (capOf C ⟨k, n, x, s, l⟩).form)
       else (zY, false, m))
    else if m - 1 < 0 then (zY, false, m - 1)
    else if (blis l C (m - 1) []).2.1 = true then (⟨k, n, x, s, (blis l C (m - 1) []).1⟩, true, (blis l C (m - 1) []).2.2) else (zY, false, (blis l C (m - 1) []).2.2)
def blis : List Syntax → List Capture → Int → List Syntax → List Syntax × Bool × Int
  | [], _, m, O => (O, true, m)
  | [x], C, m, O => if (bli x C m).2.1 = true then (O ++ [(bli x C m).1], true, (bli x C m).2.2) else (O, false, (bli x C m).2.2)
  | x :: y :: r, C, m, O => if isDots y = true then
      (if rqB C x = true then
        (if (itr (fun j m => bli x (stq C x j) m) (rqN C x) m O).2.1 = true then
          blis r C (itr (fun j m => bli x (stq C x j) m) (rqN C x) m O).2.2 (itr (fun j m => bli x (stq C x j) m) (rqN C x) m O).1
         else itr (fun j m => bli x (stq C x j) m) (rqN C x) m O)
       else (O, false, m))
    else if (bli x C m).2.1 = true then blis (y :: r) C (bli x C m).2.2 (O ++ [(bli x C m).1]) else (O, false, (bli x C m).2.2)
end
def iI (C : List Capture) (x : Syntax) (j : Nat) (q : Int) (O : List Syntax) : List Syntax × Bool × Int := itr (fun j q => bli x (stq C x j) q) j q O
def iR (C : List Capture) (x : Syntax) (q : Int) (O : List Syntax) : List Syntax × Bool × Int := if rqB C x = true then iI C x (rqN C x) q O else (O, false, q)
theorem bli_eq (t : Syntax) (C : List Capture) (m : Int) : bli t C m = if t.kind = 1 ∧ 0 ≤ fnd C t then
      (if (capOf C t).depth ≠ 0 then (zY, false, m)
       else if isSyn (capOf C t).form = true then ((capOf C t).form, decide (0 ≤ m - sizeY (capOf C t).form), m - sizeY (capOf C t).form)
       else (zY, false, m))
    else if m - 1 < 0 then (zY, false, m - 1)
    else if (blis t.items C (m - 1) []).2.1 = true then (⟨t.kind, t.number, t.text, t.scopes, (blis t.items C (m - 1) []).1⟩, true, (blis t.items C (m - 1) []).2.2) else (zY, false, (blis t.items C (m - 1) []).2.2) := by
  cases t; rw [bli]
theorem blis_nil (C : List Capture) (q : Int) (O : List Syntax) : blis [] C q O = (O, true, q) := by rw [blis]
theorem blis_one (x : Syntax) (C : List Capture) (q : Int) (O : List Syntax) : blis [x] C q O = if (bli x C q).2.1 = true then blis [] C (bli x C q).2.2 (O ++ [(bli x C q).1]) else (O, false, (bli x C q).2.2) := by
  rw [blis_nil, blis]
theorem blis_more (x y : Syntax) (r : List Syntax) (C : List Capture) (q : Int) (O : List Syntax) : blis (x :: y :: r) C q O = if isDots y = true then (if (iR C x q O).2.1 = true then blis r C (iR C x q O).2.2 (iR C x q O).1 else iR C x q O)
    else if (bli x C q).2.1 = true then blis (y :: r) C (bli x C q).2.2 (O ++ [(bli x C q).1]) else (O, false, (bli x C q).2.2) := by
  rw [blis]
  split
  · unfold iR
    split
    · rfl
    · rfl
  · rfl
theorem blis_end {l : List Syntax} {k : Nat} {C : List Capture} {q : Int} {O : List Syntax} (h : l.length ≤ k) : blis (l.drop k) C q O = (O, true, q) := by
  rw [List.drop_eq_nil_of_le h, blis_nil]
theorem blis_plain {l : List Syntax} {k : Nat} {C : List Capture} {q : Int} {O : List Syntax} (h : k < l.length) (hd : l.length ≤ k + 1 ∨ isDots (l.getD (k + 1) default) = false) :
    blis (l.drop k) C q O = if (bli (l.getD k default) C q).2.1 = true then blis (l.drop (k + 1)) C (bli (l.getD k default) C q).2.2 (O ++ [(bli (l.getD k default) C q).1]) else (O, false, (bli (l.getD k default) C q).2.2) := by
  rw [drop_get h]
  rcases Nat.lt_or_ge (k + 1) l.length with h1 | h1
  · rw [drop_get h1, blis_more, if_neg (by rcases hd with h2 | h2 <;> first | (exfalso; omega) | (rw [h2]; decide))]
  · rw [List.drop_eq_nil_of_le h1, blis_one]
theorem blis_dots {l : List Syntax} {k : Nat} {C : List Capture} {q : Int} {O : List Syntax} (h : k + 1 < l.length) (hd : isDots (l.getD (k + 1) default) = true) :
    blis (l.drop k) C q O = if (iR C (l.getD k default) q O).2.1 = true then blis (l.drop (k + 1 + 1)) C (iR C (l.getD k default) q O).2.2 (iR C (l.getD k default) q O).1 else iR C (l.getD k default) q O := by
  rw [drop_get (by omega : k < l.length), drop_get h, blis_more, if_pos hd]
theorem blis_bd : ∀ (l : List Syntax), (∀ x ∈ l, ∀ C q, 0 ≤ q → (bli x C q).2.1 = true → 0 ≤ (bli x C q).2.2 ∧ (bli x C q).2.2 + 1 ≤ q) → ∀ C q O, 0 ≤ q → (blis l C q O).2.1 = true → 0 ≤ (blis l C q O).2.2 ∧ ((blis l C q O).1.length : Int) + (blis l C q O).2.2 ≤ O.length + q
  | [], _, C, q, O, h0, _ => by rw [blis_nil]; simp only; omega
  | [x], hx, C, q, O, h0, h => by
    rw [blis_one] at h ⊢
    by_cases e : (bli x C q).2.1 = true
    · rw [if_pos e] at h ⊢
      have h1 := hx x List.mem_cons_self C q h0 e
      have h2 := blis_bd [] (fun _ h => by cases h) C _ (O ++ [(bli x C q).1]) h1.1 h
      simp only [List.length_append, List.length_singleton] at h2; omega
    · rw [if_neg e] at h; cases h
  | x :: y :: r, hx, C, q, O, h0, h => by
    rw [blis_more] at h ⊢
    by_cases d : isDots y = true
    · rw [if_pos d] at h ⊢
      by_cases e : (iR C x q O).2.1 = true
      · rw [if_pos e] at h ⊢
        have h1 : 0 ≤ (iR C x q O).2.2 ∧ ((iR C x q O).1.length : Int) + (iR C x q O).2.2 ≤ O.length + q := by
          unfold iR at e ⊢
          by_cases c : rqB C x = true
          · rw [if_pos c] at e ⊢
            exact itr_bd (fun j q => hx x List.mem_cons_self _ q) _ q O h0 e
          · rw [if_neg c] at e; cases e
        have h2 := blis_bd r (fun z hz => hx z (List.mem_cons_of_mem _ (List.mem_cons_of_mem _ hz))) C _ (iR C x q O).1 h1.1 h
        omega
      · rw [if_neg e] at h; exact absurd h e
    · rw [if_neg d] at h ⊢
      by_cases e : (bli x C q).2.1 = true
      · rw [if_pos e] at h ⊢
        have h1 := hx x List.mem_cons_self C q h0 e
        have h2 := blis_bd (y :: r) (fun z hz => hx z (List.mem_cons_of_mem _ hz)) C _ (O ++ [(bli x C q).1]) h1.1 h
        simp only [List.length_append, List.length_singleton] at h2; omega
      · rw [if_neg e] at h; cases h
theorem bli_bd : ∀ (t : Syntax) (C : List Capture) (q : Int), 0 ≤ q → (bli t C q).2.1 = true → 0 ≤ (bli t C q).2.2 ∧ (bli t C q).2.2 + 1 ≤ q := by
  refine Syntax.ind fun t ih C q h0 h => ?_
  have h3 := sizeY_eq (capOf C t).form
  rw [bli_eq] at h ⊢
  by_cases c2 : t.kind = 1 ∧ 0 ≤ fnd C t
  · rw [if_pos c2] at h ⊢
    by_cases c4 : (capOf C t).depth ≠ 0
    · rw [if_pos c4] at h; cases h
    · rw [if_neg c4] at h ⊢
      by_cases c5 : isSyn (capOf C t).form = true
      · rw [if_pos c5] at h ⊢
        simp only [decide_eq_true_eq] at h ⊢
        omega
      · rw [if_neg c5] at h; cases h
  · rw [if_neg c2] at h ⊢
    by_cases c1 : q - 1 < 0
    · rw [if_pos c1] at h; cases h
    rw [if_neg c1] at h ⊢
    by_cases c6 : (blis t.items C (q - 1) []).2.1 = true
    · rw [if_pos c6]
      have := blis_bd t.items ih C (q - 1) [] (by omega) c6
      simp only [List.length_nil] at this ⊢; omega
    · rw [if_neg c6] at h; cases h
theorem iI_bd (C : List Capture) (x : Syntax) (j : Nat) (q : Int) (O : List Syntax) (h0 : 0 ≤ q) (h : (iI C x j q O).2.1 = true) : 0 ≤ (iI C x j q O).2.2 ∧ ((iI C x j q O).1.length : Int) + (iI C x j q O).2.2 ≤ O.length + q :=
  itr_bd (fun j q => bli_bd x _ q) j q O h0 h
theorem iI_step (C : List Capture) (x : Syntax) (j : Nat) (q : Int) (O : List Syntax) (h : (iI C x j q O).2.1 = true) : iI C x (j + 1) q O = ((iI C x j q O).1 ++ [(bli x (stq C x j) (iI C x j q O).2.2).1], (bli x (stq C x j) (iI C x j q O).2.2).2.1, (bli x (stq C x j) (iI C x j q O).2.2).2.2) := itr_step _ j q O h
theorem iI_stop (C : List Capture) (x : Syntax) (j n : Nat) (q : Int) (O : List Syntax) (h : (iI C x j q O).2.1 = false) (hn : j ≤ n) : iI C x n q O = iI C x j q O := itr_stop _ j q O h n hn
theorem stqT_w {C : List Capture} (hC : ∀ z ∈ C, wP z ≤ 1048576) (a : Nat) (I : List Int) : ∀ z ∈ stqT C a I, wP z ≤ 1048576 := by
  have : ∀ (I : List Int) (O : List Capture), (∀ z ∈ O, wP z ≤ 1048576) → ∀ z ∈ I.foldl (fun O i => O.set i.toNat ((C.getD i.toNat default).each.getD a default)) O, wP z ≤ 1048576 := by
    intro I
    induction I with
    | nil => intro O h; exact h
    | cons x r ih =>
      intro O h
      rw [List.foldl_cons]
      refine ih _ fun z hz => ?_
      rcases List.mem_or_eq_of_mem_set hz with h2 | h2
      · exact h z h2
      · rw [h2]; exact each_w hC _ _
  exact this I C hC
mutual
def nms : Syntax → List Syntax
  | ⟨k, n, t, s, l⟩ => (if k = 1 then [⟨k, n, t, s, l⟩] else []) ++ nmss l
def nmss : List Syntax → List Syntax
  | [] => []
  | x :: r => nms x ++ nmss r
end
theorem nmss_eq : ∀ l, nmss l = l.flatMap nms
  | [] => by simp [nmss]
  | x :: r => by rw [nmss, nmss_eq r]; simp
theorem nms_eq (x : Syntax) : nms x = (if x.kind = 1 then [x] else []) ++ x.items.flatMap nms := by cases x; simp only [nms, nmss_eq]
def addId (o : List Syntax) (y : Syntax) : List Syntax := if hasI o y = false then o ++ [y] else o
def addRp (C : List Capture) (o : List Int) (y : Syntax) : List Int := if rep C y = true ∧ fnd C y ∉ o then o ++ [fnd C y] else o
theorem foldl_flat {α β γ : Type} (f : γ → α → γ) (g : γ → β → γ) (h : β → List α) : ∀ (l : List β), (∀ x ∈ l, ∀ o, g o x = (h x).foldl f o) → ∀ o, l.foldl g o = (l.flatMap h).foldl f o
  | [], _, o => rfl
  | x :: r, hx, o => by
    rw [List.foldl_cons, List.flatMap_cons, List.foldl_append, hx x List.mem_cons_self, foldl_flat f g h r fun y hy => hx y (List.mem_cons_of_mem _ hy)]
theorem idsY_nms : ∀ (x : Syntax) (o : List Syntax), idsY x o = (nms x).foldl addId o := by
  refine Syntax.ind fun x ih o => ?_
  rw [idsY_eq, nms_eq, List.foldl_append, foldl_flat addId _ nms x.items ih]
  congr 1
  unfold ids0
  by_cases h : x.kind = 1
  · rw [if_pos h]; simp [addId, h]
  · rw [if_neg h]; simp [h]
theorem rpi_nms (C : List Capture) : ∀ (x : Syntax) (o : List Int), rpi C x o = (nms x).foldl (addRp C) o := by
  refine Syntax.ind fun x ih o => ?_
  rw [rpi_eq, nms_eq, List.foldl_append, foldl_flat (addRp C) _ nms x.items ih]
  congr 1
  unfold rpi0
  by_cases h : x.kind = 1
  · rw [if_pos h]; simp [addRp, h]
  · rw [if_neg h]; simp [h]
theorem nms_kind : ∀ (x : Syntax), ∀ y ∈ nms x, y.kind = 1 := by
  refine Syntax.ind fun x ih y hy => ?_
  rw [nms_eq, List.mem_append, List.mem_flatMap] at hy
  rcases hy with hy | ⟨z, hz, hy⟩
  · split at hy
    · rename_i h; rw [List.mem_singleton] at hy; subst hy; exact h
    · cases hy
  · exact ih z hz y hy
theorem fnd_same {C : List Capture} {a b : Syntax} (h1 : a.text = b.text) (h2 : a.scopes = b.scopes) (ha : a.kind = 1) (hb : b.kind = 1) : fnd C a = fnd C b := by
  have e : capFor a = capFor b := by funext x; simp only [capFor, h1, h2]
  simp only [fnd, fndN, isDots, e, h1, ha, hb]
theorem hasI_mem {o : List Syntax} {y : Syntax} : hasI o y = true ↔ ∃ z ∈ o, z.text = y.text ∧ z.scopes = y.scopes := by
  simp only [hasI, List.any_eq_true, Bool.and_eq_true, decide_eq_true_eq]
theorem addId_mem (L : List Syntax) : ∀ (o : List Syntax), (∀ z ∈ L.foldl addId o, z ∈ o ∨ z ∈ L) ∧ (∀ y, y ∈ o ∨ y ∈ L → ∃ z ∈ L.foldl addId o, z.text = y.text ∧ z.scopes = y.scopes) := by
  induction L with
  | nil => intro o; exact ⟨fun z hz => .inl hz, fun y hy => ⟨y, by simpa using hy, rfl, rfl⟩⟩
  | cons x r ih =>
    intro o
    rw [List.foldl_cons]
    obtain ⟨h1, h2⟩ := ih (addId o x)
    constructor
    · intro z hz
      rcases h1 z hz with h | h
      · unfold addId at h
        split at h
        · rcases List.mem_append.1 h with h | h
          · exact .inl h
          · rw [List.mem_singleton.1 h]; exact .inr List.mem_cons_self
        · exact .inl h
      · exact .inr (List.mem_cons_of_mem _ h)
    · intro y hy
      have h3 : ∃ z ∈ addId o x, z.text = x.text ∧ z.scopes = x.scopes := by
        unfold addId
        by_cases e : hasI o x = false
        · rw [if_pos e]; exact ⟨x, by simp, rfl, rfl⟩
        · rw [if_neg e]; exact hasI_mem.1 (by simpa using e)
      have h4 : ∀ z ∈ o, z ∈ addId o x := fun z hz => by unfold addId; split <;> simp [hz]
      rcases hy with hy | hy
      · exact h2 y (.inl (h4 y hy))
      · rcases List.mem_cons.1 hy with rfl | hy
        · obtain ⟨z, hz, e1, e2⟩ := h3
          obtain ⟨w, hw, e3, e4⟩ := h2 z (.inl hz)
          exact ⟨w, hw, e3.trans e1, e4.trans e2⟩
        · exact h2 y (.inr hy)
theorem addRp_mem (C : List Capture) (L : List Syntax) : ∀ (o : List Int) (i : Int), i ∈ L.foldl (addRp C) o ↔ (i ∈ o ∨ ∃ y ∈ L, rep C y = true ∧ fnd C y = i) := by
  induction L with
  | nil => intro o i; simp
  | cons x r ih =>
    intro o i
    rw [List.foldl_cons, ih]
    have e : i ∈ addRp C o x ↔ (i ∈ o ∨ (rep C x = true ∧ fnd C x = i)) := by
      unfold addRp
      by_cases h : rep C x = true ∧ fnd C x ∉ o
      · rw [if_pos h, List.mem_append, List.mem_singleton]
        constructor
        · rintro (a | rfl)
          · exact .inl a
          · exact .inr ⟨h.1, rfl⟩
        · rintro (a | ⟨_, rfl⟩)
          · exact .inl a
          · exact .inr rfl
      · rw [if_neg h]
        constructor
        · exact .inl
        · rintro (a | ⟨a, rfl⟩)
          · exact a
          · exact Decidable.byContradiction fun n => h ⟨a, n⟩
    rw [e]
    simp only [List.mem_cons, exists_eq_or_imp, or_assoc]
theorem rpX_mem {C : List Capture} {x : Syntax} {i : Int} : i ∈ rpX C x ↔ ∃ y ∈ idsY x [], rep C y = true ∧ fnd C y = i := by
  unfold rpX
  rw [rpi_nms, addRp_mem, idsY_nms]
  have h := addId_mem (nms x) []
  constructor
  · rintro (a | ⟨y, hy, h1, h2⟩)
    · cases a
    · obtain ⟨z, hz, e1, e2⟩ := h.2 y (.inr hy)
      have hz' : z ∈ nms x := by rcases h.1 z hz with a | a; cases a; exact a
      have e := @fnd_same C z y e1 e2 (nms_kind x z hz') (nms_kind x y hy)
      exact ⟨z, hz, by simpa [rep, capOf, e] using h1, e.trans h2⟩
  · rintro ⟨y, hy, h1, h2⟩
    refine .inr ⟨y, ?_, h1, h2⟩
    rcases h.1 y hy with a | a
    · cases a
    · exact a
theorem rep_len {C : List Capture} {y : Syntax} (h : rep C y = true) : lnI C (fnd C y) = ((capOf C y).each.length : Int) ∧ 0 ≤ fnd C y := by
  simp only [rep, Bool.and_eq_true, decide_eq_true_eq] at h
  exact ⟨rfl, h.1⟩
theorem cn_of {C : List Capture} {I : List Syntax} {n : Int} (h0 : 0 ≤ n) : ∀ m, (∀ j, j < m → rep C (I.getD j default) = true → ((capOf C (I.getD j default)).each.length : Int) = n) → cnOK C I m = true ∧ (cnN C I m = n ∨ cnN C I m = -1)
  | 0, _ => ⟨rfl, .inr rfl⟩
  | m + 1, h => by
    obtain ⟨h1, h2⟩ := cn_of h0 m fun j hj => h j (by omega)
    have h3 := h m (by omega)
    simp only [cnOK, cnN, Bool.and_eq_true, Bool.or_eq_true, Bool.not_eq_true', decide_eq_true_eq]
    by_cases e : rep C (I.getD m default) = true
    · rw [if_pos e]
      have := h3 e
      refine ⟨⟨h1, ?_⟩, .inl this⟩
      rcases h2 with h2 | h2
      · exact .inr (by omega)
      · exact .inl (.inr (by omega))
    · rw [if_neg e]
      exact ⟨⟨h1, .inl (.inl (by simpa using e))⟩, h2⟩
theorem cnN_rep {C : List Capture} {I : List Syntax} : ∀ m, m ≤ I.length → 0 ≤ cnN C I m → ∃ y ∈ I, rep C y = true
  | 0, _, h => by simp only [cnN] at h; omega
  | m + 1, hm, h => by
    simp only [cnN] at h
    split at h
    · rename_i e; exact ⟨_, getD_mem' (by omega), e⟩
    · exact cnN_rep m (by omega) h
theorem rq_cn (C : List Capture) (x : Syntax) : rqB C x = cnB C x ∧ (cnB C x = true → rqN C x = bN C x) := by
  have hall : cnB C x = true → ∀ i ∈ rpX C x, lnI C i = cnN C (idsY x []) (idsY x []).length := by
    intro h i hi
    simp only [cnB, Bool.and_eq_true, decide_eq_true_eq] at h
    obtain ⟨y, hy, h1, rfl⟩ := rpX_mem.1 hi
    rw [(rep_len h1).1]
    obtain ⟨j, hj, rfl⟩ := List.getElem_of_mem hy
    have e : (idsY x [])[j] = (idsY x []).getD j default := by simp [hj]
    rw [e] at h1 ⊢
    exact cn_all _ j hj h.1 h1
  have hne : cnB C x = true → 0 < (rpX C x).length := by
    intro h
    simp only [cnB, Bool.and_eq_true, decide_eq_true_eq] at h
    obtain ⟨y, hy, h1⟩ := cnN_rep _ (Nat.le_refl _) h.2
    exact List.length_pos_of_mem (rpX_mem.2 ⟨y, hy, h1, rfl⟩)
  refine ⟨?_, fun h => ?_⟩
  · rw [Bool.eq_iff_iff]
    constructor
    · intro h
      simp only [rqB, rqA, Bool.and_eq_true, Bool.not_eq_true', decide_eq_false_iff_not, List.all_eq_true, decide_eq_true_eq] at h
      have hl : 0 < (rpX C x).length := by omega
      have h0 : 0 ≤ lnI C ((rpX C x).getD 0 default) := by simp only [lnI]; omega
      have h1 := @cn_of C (idsY x []) _ h0 (idsY x []).length fun j hj hr => by
        rw [← (rep_len hr).1]
        exact h.2 _ (rpX_mem.2 ⟨_, getD_mem' hj, hr, rfl⟩)
      obtain ⟨y, hy, hr, _⟩ := rpX_mem.1 (getD_mem' hl)
      obtain ⟨j, hj, rfl⟩ := List.getElem_of_mem hy
      have e : (idsY x [])[j] = (idsY x []).getD j default := by simp [hj]
      rw [e] at hr
      have := cn_all _ j hj h1.1 hr
      simp only [cnB, Bool.and_eq_true, decide_eq_true_eq]
      exact ⟨h1.1, by omega⟩
    · intro h
      have h1 := hall h
      have h2 := hne h
      simp only [rqB, rqA, Bool.and_eq_true, Bool.not_eq_true', decide_eq_false_iff_not, List.all_eq_true, decide_eq_true_eq]
      exact ⟨by omega, fun i hi => by rw [h1 i hi, h1 _ (getD_mem' h2)]⟩
  · have h1 := hall h _ (getD_mem' (hne h))
    simp only [lnI] at h1
    simp only [rqN, bN]; omega
theorem stpL_at (C : List Capture) (a p : Nat) : ∀ L, (stpL C a L)[p]? = if (∃ y ∈ L, rep C y = true ∧ (fnd C y).toNat = p) ∧ p < C.length then some ((C.getD p default).each.getD a default) else C[p]?
  | [] => by simp [stpL]
  | x :: r => by
    have ih := stpL_at C a p r
    have hl := stpL_len C a r
    have er : (0 ≤ fnd C x ∧ 0 < (C.getD (fnd C x).toNat default).depth) ↔ rep C x = true := by
      unfold rep; rw [Bool.and_eq_true, decide_eq_true_eq, decide_eq_true_eq]; exact Iff.rfl
    simp only [stpL]
    by_cases e : rep C x = true
    · rw [if_pos (er.2 e), List.getElem?_set, hl]
      by_cases e2 : (fnd C x).toNat = p
      · rw [if_pos e2]
        by_cases e3 : p < C.length
        · rw [if_pos (by omega), if_pos ⟨⟨x, List.mem_cons_self, e, e2⟩, e3⟩, e2]
        · rw [if_neg (by omega), if_neg (fun h => e3 h.2)]
          rw [List.getElem?_eq_none (by omega)]
      · rw [if_neg e2, ih]
        congr 1
        apply propext
        constructor
        · rintro ⟨⟨y, hy, h⟩, h2⟩; exact ⟨⟨y, List.mem_cons_of_mem _ hy, h⟩, h2⟩
        · rintro ⟨⟨y, hy, h⟩, h2⟩
          rcases List.mem_cons.1 hy with rfl | hy
          · exact absurd h.2 e2
          · exact ⟨⟨y, hy, h⟩, h2⟩
    · rw [if_neg (fun h => e (er.1 h)), ih]
      congr 1
      apply propext
      constructor
      · rintro ⟨⟨y, hy, h⟩, h2⟩; exact ⟨⟨y, List.mem_cons_of_mem _ hy, h⟩, h2⟩
      · rintro ⟨⟨y, hy, h⟩, h2⟩
        rcases List.mem_cons.1 hy with rfl | hy
        · exact absurd h.1 e
        · exact ⟨⟨y, hy, h⟩, h2⟩
theorem stqT_at (C : List Capture) (a p : Nat) (I : List Int) : (stqT C a I)[p]? = if (∃ i ∈ I, i.toNat = p) ∧ p < C.length then some ((C.getD p default).each.getD a default) else C[p]? := by
  have : ∀ (I : List Int) (O : List Capture), O.length = C.length → (I.foldl (fun O i => O.set i.toNat ((C.getD i.toNat default).each.getD a default)) O)[p]? = if (∃ i ∈ I, i.toNat = p) ∧ p < C.length then some ((C.getD p default).each.getD a default) else O[p]? := by
    intro I
    induction I with
    | nil => intro O _; simp
    | cons x r ih =>
      intro O hO
      rw [List.foldl_cons, ih _ (by rw [List.length_set]; exact hO), List.getElem?_set, hO]
      by_cases e3 : p < C.length
      · by_cases e : ∃ i ∈ r, i.toNat = p
        · obtain ⟨i, hi, h⟩ := e
          rw [if_pos ⟨⟨i, hi, h⟩, e3⟩, if_pos ⟨⟨i, List.mem_cons_of_mem _ hi, h⟩, e3⟩]
        · rw [if_neg (fun h => e h.1)]
          by_cases e2 : x.toNat = p
          · rw [if_pos e2, if_pos (by omega), if_pos ⟨⟨x, List.mem_cons_self, e2⟩, e3⟩, e2]
          · rw [if_neg e2, if_neg]
            rintro ⟨⟨i, hi, h⟩, _⟩
            rcases List.mem_cons.1 hi with rfl | hi
            · exact e2 h
            · exact e ⟨i, hi, h⟩
      · have n1 : ¬ ((∃ i ∈ r, i.toNat = p) ∧ p < C.length) := fun h => e3 h.2
        have n2 : ¬ ((∃ i ∈ x :: r, i.toNat = p) ∧ p < C.length) := fun h => e3 h.2
        rw [if_neg n1, if_neg n2]
        split
        · rename_i h; rw [if_neg (by omega), List.getElem?_eq_none (by omega)]
        · rfl
  exact this I C rfl
theorem stq_eq (C : List Capture) (x : Syntax) (a : Nat) : stq C x a = stpX C x a := by
  apply List.ext_getElem?
  intro p
  unfold stq stpX stpTo
  rw [stqT_at, stpL_at, List.take_length]
  congr 1
  apply propext
  constructor
  · rintro ⟨⟨i, hi, h⟩, h2⟩
    obtain ⟨y, hy, h3, rfl⟩ := rpX_mem.1 hi
    exact ⟨⟨y, List.mem_reverse.2 hy, h3, h⟩, h2⟩
  · rintro ⟨⟨y, hy, h3, h⟩, h2⟩
    exact ⟨⟨_, rpX_mem.2 ⟨y, List.mem_reverse.1 hy, h3, rfl⟩, h⟩, h2⟩
def goodY (s : Syntax) : Prop := okY s = true ∧ depY s ≤ 40
theorem itr_keep {f : Nat → Int → Syntax × Bool × Int} {z : Syntax} {q : Int} {O : List Syntax} (h : z ∈ O) : ∀ j, z ∈ (itr f j q O).1
  | 0 => h
  | j + 1 => by
    have := itr_keep (f := f) (q := q) h j
    simp only [itr]; split
    · exact List.mem_append_left _ this
    · exact this
theorem itr_ok {f : Nat → Int → Syntax × Bool × Int} {q : Int} {O : List Syntax} {j : Nat} (h : (itr f (j + 1) q O).2.1 = true) : (itr f j q O).2.1 = true := by
  simp only [itr] at h; split at h
  · assumption
  · exact h
theorem itr_rel {f g : Nat → Int → Syntax × Bool × Int} (hg : ∀ j q, 0 ≤ q → (g j q).2.1 = true → 0 ≤ (g j q).2.2 ∧ (g j q).2.2 + 1 ≤ q)
    (h : ∀ j q, 0 ≤ q → q ≤ 2000 → ((g j q).2.1 = true → f j q = g j q) ∧ ((f j q).2.1 = true → goodY (f j q).1 → (g j q).2.1 = true)) {q : Int} (h0 : 0 ≤ q) (h1 : q ≤ 2000) (O : List Syntax) :
    ∀ j, ((itr g j q O).2.1 = true → itr f j q O = itr g j q O ∧ 0 ≤ (itr g j q O).2.2 ∧ (itr g j q O).2.2 ≤ q) ∧ ((itr f j q O).2.1 = true → (∀ z ∈ (itr f j q O).1, goodY z) → (itr g j q O).2.1 = true)
  | 0 => ⟨fun _ => ⟨rfl, h0, Int.le_refl _⟩, fun _ _ => rfl⟩
  | j + 1 => by
    obtain ⟨ih1, ih2⟩ := itr_rel hg h h0 h1 O j
    constructor
    · intro ht
      have hj := itr_ok ht
      obtain ⟨e, b1, b2⟩ := ih1 hj
      rw [itr_step g j q O hj] at ht ⊢
      rw [itr_step f j q O (by rw [e]; exact hj), e]
      have h3 := (h j _ b1 (by omega)).1 ht
      have h4 := hg j _ b1 ht
      rw [h3]
      exact ⟨rfl, h4.1, by simp only; omega⟩
    · intro ht hz
      have hj := itr_ok ht
      rw [itr_step f j q O hj] at ht hz
      have hgj := ih2 hj fun z hz' => hz z (List.mem_append_left _ hz')
      obtain ⟨e, b1, b2⟩ := ih1 hgj
      rw [itr_step g j q O hgj]
      have h3 := (h j (itr f j q O).2.2 (by rw [e]; exact b1) (by rw [e]; omega)).2 ht (hz _ (List.mem_append_right _ (List.mem_singleton.2 rfl)))
      rw [e] at h3
      exact h3
theorem bR_keep {C : List Capture} {x z : Syntax} {q : Int} {O : List Syntax} (h : z ∈ O) : z ∈ (bR C x q O).1 := by
  unfold bR bJ bI; split
  · exact itr_keep h _
  · exact h
theorem blds_keep : ∀ (l : List Syntax) (C : List Capture) (q : Int) (O : List Syntax) (z : Syntax), z ∈ O → z ∈ (blds l C q O).1
  | [], C, q, O, z, h => by rw [blds_nil]; exact h
  | [x], C, q, O, z, h => by
    rw [blds_one]; split
    · exact blds_keep [] C _ _ z (List.mem_append_left _ h)
    · exact h
  | x :: y :: r, C, q, O, z, h => by
    rw [blds_more]; split
    · split
      · exact blds_keep r C _ _ z (bR_keep h)
      · exact bR_keep h
    · split
      · exact blds_keep (y :: r) C _ _ z (List.mem_append_left _ h)
      · exact h
def relY (x : Syntax) : Prop := ∀ C q, 0 ≤ q → q ≤ 2000 → ((bli x C q).2.1 = true → bld x C q = bli x C q) ∧ ((bld x C q).2.1 = true → goodY (bld x C q).1 → (bli x C q).2.1 = true)
theorem bR_rel {x : Syntax} (hx : relY x) (C : List Capture) {q : Int} (h0 : 0 ≤ q) (h1 : q ≤ 2000) (O : List Syntax) :
    ((iR C x q O).2.1 = true → bR C x q O = iR C x q O ∧ 0 ≤ (iR C x q O).2.2 ∧ (iR C x q O).2.2 ≤ q) ∧ ((bR C x q O).2.1 = true → (∀ z ∈ (bR C x q O).1, goodY z) → (iR C x q O).2.1 = true) := by
  obtain ⟨e1, e2⟩ := rq_cn C x
  unfold iR bR bJ
  rw [e1]
  by_cases c : cnB C x = true
  · rw [if_pos c, if_pos c, e2 c]
    have e3 : iI C x (bN C x) q O = itr (fun j q => bli x (stpX C x j) q) (bN C x) q O := by unfold iI; congr 1; funext j m; rw [stq_eq]
    rw [e3]
    exact itr_rel (fun j q => bli_bd x _ q) (fun j q a b => hx _ q a b) h0 h1 O (bN C x)
  · rw [if_neg c, if_neg c]
    exact ⟨fun h => (by cases h), fun h => (by cases h)⟩
theorem blds_rel : ∀ (l : List Syntax) (b : Bool), (∀ x ∈ l, dotf x = true → relY x) → (∀ x, l.head? = some x → isDots x = false) → dotfs b l = true → ∀ C q O, 0 ≤ q → q ≤ 2000 →
    ((blis l C q O).2.1 = true → blds l C q O = blis l C q O) ∧ ((blds l C q O).2.1 = true → (∀ z ∈ (blds l C q O).1, goodY z) → (blis l C q O).2.1 = true)
  | [], b, _, _, _, C, q, O, h0, h1 => by rw [blds_nil, blis_nil]; exact ⟨fun _ => rfl, fun _ _ => rfl⟩
  | [x], b, hx, hh, hd, C, q, O, h0, h1 => by
    have hn : isDots x = false := hh x rfl
    simp only [dotfs, hn, Bool.and_true] at hd
    have h := hx x List.mem_cons_self (by simpa using hd) C q h0 h1
    rw [blds_one, blis_one, blds_nil, blis_nil]
    constructor
    · intro ht
      by_cases e : (bli x C q).2.1 = true
      · rw [if_pos e, h.1 e, if_pos e]
      · rw [if_neg e] at ht; cases ht
    · intro ht hz
      by_cases e : (bld x C q).2.1 = true
      · rw [if_pos e] at hz
        have := h.2 e (hz _ (List.mem_append_right _ (List.mem_singleton.2 rfl)))
        rw [if_pos this]
      · rw [if_neg e] at ht; cases ht
  | x :: y :: r, b, hx, hh, hd, C, q, O, h0, h1 => by
    have hn : isDots x = false := hh x rfl
    have hd2 : dotf x = true ∧ dotfs false (y :: r) = true := by
      rw [dotfs, hn] at hd
      simpa using hd
    have hxr := hx x List.mem_cons_self hd2.1
    rw [blds_more, blis_more]
    by_cases d : isDots y = true
    · rw [if_pos d, if_pos d]
      have hr : dotfs true r = true := by
        have := hd2.2
        rw [dotfs, d] at this
        simpa using this
      have hrh : ∀ z, r.head? = some z → isDots z = false := by
        intro z hz
        cases r with
        | nil => cases hz
        | cons w r =>
          simp only [List.head?_cons, Option.some.injEq] at hz
          subst hz
          cases e : isDots w with
          | false => rfl
          | true => rw [dotfs, e] at hr; simp at hr
      have h := bR_rel hxr C h0 h1 O
      constructor
      · intro ht
        by_cases e : (iR C x q O).2.1 = true
        · obtain ⟨e1, b1, b2⟩ := h.1 e
          rw [if_pos e] at ht ⊢
          rw [e1, if_pos e]
          exact (blds_rel r true (fun z hz => hx z (List.mem_cons_of_mem _ (List.mem_cons_of_mem _ hz))) hrh hr C _ _ b1 (by omega)).1 ht
        · rw [if_neg e] at ht; exact absurd ht e
      · intro ht hz
        by_cases e : (bR C x q O).2.1 = true
        · rw [if_pos e] at ht hz
          have hi := h.2 e fun z hz' => hz z (blds_keep r C _ _ z hz')
          obtain ⟨e1, b1, b2⟩ := h.1 hi
          rw [if_pos hi]
          rw [e1] at ht hz
          exact (blds_rel r true (fun z hz => hx z (List.mem_cons_of_mem _ (List.mem_cons_of_mem _ hz))) hrh hr C _ _ b1 (by omega)).2 ht hz
        · rw [if_neg e] at ht; exact absurd ht e
    · rw [if_neg d, if_neg d]
      have h := hxr C q h0 h1
      have hyh : ∀ z, (y :: r).head? = some z → isDots z = false := by
        intro z hz
        simp only [List.head?_cons, Option.some.injEq] at hz
        subst hz; simpa using d
      constructor
      · intro ht
        by_cases e : (bli x C q).2.1 = true
        · have hb := bli_bd x C q h0 e
          rw [if_pos e] at ht ⊢
          rw [h.1 e, if_pos e]
          exact (blds_rel (y :: r) false (fun z hz => hx z (List.mem_cons_of_mem _ hz)) hyh hd2.2 C _ _ hb.1 (by omega)).1 ht
        · rw [if_neg e] at ht; cases ht
      · intro ht hz
        by_cases e : (bld x C q).2.1 = true
        · rw [if_pos e] at ht hz
          have hi := h.2 e (hz _ (blds_keep (y :: r) C _ _ _ (List.mem_append_right _ (List.mem_singleton.2 rfl))))
          have hb := bli_bd x C q h0 hi
          rw [if_pos hi]
          rw [h.1 hi] at ht hz
          exact (blds_rel (y :: r) false (fun z hz => hx z (List.mem_cons_of_mem _ hz)) hyh hd2.2 C _ _ hb.1 (by omega)).2 ht hz
        · rw [if_neg e] at ht; cases ht
theorem dotfs_head {l : List Syntax} (h : dotfs true l = true) : ∀ x, l.head? = some x → isDots x = false := by
  intro x hx
  cases l with
  | nil => cases hx
  | cons y r =>
    simp only [List.head?_cons, Option.some.injEq] at hx
    subst hx
    cases e : isDots y with
    | false => rfl
    | true => rw [dotfs, e] at h; simp at h
theorem okY_node {t : Syntax} (h : okY t = true) : (t.kind = 1 → t.items = []) ∧ (t.kind ≠ 1 → t.scopes = []) := by
  rw [okY_eq] at h
  simp only [nodY0, nodD, Bool.and_eq_true, Bool.or_eq_true, decide_eq_true_eq] at h
  constructor
  · intro hk
    have : (t.items.length : Int) = 0 := by omega
    exact List.length_eq_zero_iff.1 (by omega)
  · intro hk
    have : (t.scopes.length : Int) = 0 := by omega
    exact List.length_eq_zero_iff.1 (by omega)
theorem etaY (t : Syntax) : t = ⟨t.kind, t.number, t.text, t.scopes, t.items⟩ := by cases t; rfl
theorem bld_rel : ∀ t, okY t = true → dotf t = true → relY t := by
  refine Syntax.ind fun t ih hok hdot C q h0 h1 => ?_
  have hn := okY_node hok
  have hd := dotf_eq t
  rw [hdot] at hd
  have hd1 : isDots t = false ∧ dotfs true t.items = true := by
    have := hd.symm
    simpa using this
  have hsz := sizeY_eq (capOf C t).form
  by_cases hc : t.kind = 1 ∧ 0 ≤ fnd C t
  · rw [bli_eq, if_pos hc, bld_eq, if_pos hc.1, if_neg (by rw [hd1.1]; simp; omega : ¬ (isDots t = true ∨ fnd C t < 0))]
    by_cases c4 : (capOf C t).depth ≠ 0
    · rw [if_pos c4, if_pos c4]
      exact ⟨fun h => (by cases h), fun h => (by split at h <;> cases h)⟩
    · rw [if_neg c4, if_neg c4]
      constructor
      · intro h
        by_cases c5 : isSyn (capOf C t).form = true
        · rw [if_pos c5] at h ⊢
          simp only [decide_eq_true_eq] at h
          rw [if_neg (by omega), if_pos (by omega)]
          have e : max (q - (sizeY (capOf C t).form : Int)) (-1) = q - sizeY (capOf C t).form := by omega
          rw [e, decide_eq_true h]
        · rw [if_neg c5] at h; cases h
      · intro h hg
        by_cases c1 : q - 1 < 0
        · rw [if_pos c1] at h; cases h
        · rw [if_neg c1] at h hg
          by_cases c6 : (sizeY (capOf C t).form : Int) ≤ q
          · rw [if_pos c6] at hg
            have c5 : isSyn (capOf C t).form = true := by
              simp only [isSyn, Bool.and_eq_true, decide_eq_true_eq]
              exact ⟨⟨by omega, hg.2⟩, hg.1⟩
            rw [if_pos c5]
            simp only [decide_eq_true_eq]; omega
          · rw [if_neg c6] at h; cases h
  · rw [bli_eq, if_neg hc, bld_eq]
    by_cases c1 : q - 1 < 0
    · rw [if_pos c1, if_pos c1]
      exact ⟨fun h => (by cases h), fun h => (by cases h)⟩
    · rw [if_neg c1, if_neg c1]
      by_cases hk : t.kind = 1
      · have hi := hn.1 hk
        rw [if_pos hk, if_pos (Or.inr (by omega) : isDots t = true ∨ fnd C t < 0), hi, blis_nil, hd1.1]
        refine ⟨fun _ => ?_, fun _ _ => rfl⟩
        have e : t = ⟨t.kind, t.number, t.text, t.scopes, []⟩ := Eq.trans (etaY t) (by rw [hi])
        show (t, true, q - 1) = ((⟨t.kind, t.number, t.text, t.scopes, []⟩ : Syntax), true, q - 1)
        rw [← e]
      · rw [if_neg hk]
        have hs := hn.2 hk
        have hall : ∀ x ∈ t.items, okY x = true := by
          rw [okY_eq, Bool.and_eq_true, List.all_eq_true] at hok; exact hok.1
        have h := blds_rel t.items true (fun x hx => ih x hx (hall x hx)) (dotfs_head hd1.2) hd1.2 C (q - 1) [] (by omega) (by omega)
        constructor
        · intro ht
          by_cases e : (blis t.items C (q - 1) []).2.1 = true
          · rw [if_pos e, h.1 e, if_pos e, hs]
          · rw [if_neg e] at ht; cases ht
        · intro ht hg
          by_cases e : (blds t.items C (q - 1) []).2.1 = true
          · rw [if_pos e] at hg
            have hz : ∀ z ∈ (blds t.items C (q - 1) []).1, goodY z := by
              intro z hz
              obtain ⟨g1, g2⟩ := hg
              rw [okY_eq, Bool.and_eq_true, List.all_eq_true] at g1
              rw [depY_eq] at g2
              have := maxBy_mem depY hz
              exact ⟨g1.1 z hz, by simp only at g2; omega⟩
            rw [if_pos (h.2 e hz)]
          · rw [if_neg e] at ht; cases ht
def insB (t : Syntax) (C : List Capture) : Bool := isSyn t && dotf t && (bld t C 2000).2.1 && isSyn (bld t C 2000).1
def insY (t : Syntax) (C : List Capture) : Syntax := if insB t C = true then (bld t C 2000).1 else zY
theorem ins_same {t : Syntax} (C : List Capture) (h1 : isSyn t = true) (h2 : dotf t = true) : insB t C = ((bli t C 2000).2.1 && isSyn (bli t C 2000).1) ∧ ((bli t C 2000).2.1 = true → (bld t C 2000).1 = (bli t C 2000).1) := by
  have hok : okY t = true := by simp only [isSyn, Bool.and_eq_true] at h1; exact h1.2
  have h := bld_rel t hok h2 C 2000 (by decide) (by decide)
  refine ⟨?_, fun e => by rw [h.1 e]⟩
  unfold insB
  rw [h1, h2, Bool.eq_iff_iff]
  simp only [Bool.true_and, Bool.and_eq_true]
  constructor
  · rintro ⟨a, b⟩
    have hg : goodY (bld t C 2000).1 := by simp only [isSyn, Bool.and_eq_true, decide_eq_true_eq] at b; exact ⟨b.2, b.1.2⟩
    have := h.2 a hg
    exact ⟨this, by rw [← h.1 this]; exact b⟩
  · rintro ⟨a, b⟩
    rw [h.1 a]; exact ⟨a, b⟩
section
variable {t : Syntax} {C : List Capture} {q : Int}
theorem bld_b1 (h : q - 1 < 0) : bld t C q = (zY, false, q - 1) := by rw [bld_eq, if_pos h]
theorem bld_b2 (h : ¬ q - 1 < 0) (h1 : t.kind = 1) (h2 : isDots t = true ∨ fnd C t < 0) : bld t C q = (t, !isDots t, q - 1) := by rw [bld_eq, if_neg h, if_pos h1, if_pos h2]
theorem bld_b3 (h : ¬ q - 1 < 0) (h1 : t.kind = 1) (h2 : isDots t = false) (h3 : ¬ fnd C t < 0) (h4 : ¬ (C.getD (fnd C t).toNat default).depth = 0) : bld t C q = (zY, false, q) := by
  rw [bld_eq, if_neg h, if_pos h1, if_neg (by rw [h2]; rintro (a | a); cases a; exact h3 a), if_pos (show (capOf C t).depth ≠ 0 from h4)]
theorem bld_b4 (h : ¬ q - 1 < 0) (h1 : t.kind = 1) (h2 : isDots t = false) (h3 : ¬ fnd C t < 0) (h4 : (C.getD (fnd C t).toNat default).depth = 0) (h5 : ¬ (sizeY (C.getD (fnd C t).toNat default).form : Int) ≤ q) : bld t C q = (zY, false, max (q - sizeY (C.getD (fnd C t).toNat default).form) (-1)) := by
  rw [bld_eq, if_neg h, if_pos h1, if_neg (by rw [h2]; rintro (a | a); cases a; exact h3 a), if_neg (by intro e; exact e h4), if_neg (show ¬ (sizeY (capOf C t).form : Int) ≤ q from h5)]; rfl
theorem bld_b5 (h : ¬ q - 1 < 0) (h1 : t.kind = 1) (h2 : isDots t = false) (h3 : ¬ fnd C t < 0) (h4 : (C.getD (fnd C t).toNat default).depth = 0) (h5 : (sizeY (C.getD (fnd C t).toNat default).form : Int) ≤ q) : bld t C q = ((C.getD (fnd C t).toNat default).form, true, max (q - sizeY (C.getD (fnd C t).toNat default).form) (-1)) := by
  rw [bld_eq, if_neg h, if_pos h1, if_neg (by rw [h2]; rintro (a | a); cases a; exact h3 a), if_neg (by intro e; exact e h4), if_pos (show (sizeY (capOf C t).form : Int) ≤ q from h5)]; rfl
theorem bld_b6 (h : ¬ q - 1 < 0) (h1 : ¬ t.kind = 1) (h2 : (blds t.items C (q - 1) []).2.1 = true) : bld t C q = (⟨t.kind, t.number, t.text, [], (blds t.items C (q - 1) []).1⟩, true, (blds t.items C (q - 1) []).2.2) := by
  rw [bld_eq, if_neg h, if_neg h1, if_pos h2]
theorem bld_b7 (h : ¬ q - 1 < 0) (h1 : ¬ t.kind = 1) (h2 : (blds t.items C (q - 1) []).2.1 = false) : bld t C q = (zY, false, (blds t.items C (q - 1) []).2.2) := by
  rw [bld_eq, if_neg h, if_neg h1, if_neg (by rw [h2]; decide)]
theorem bli_b1 (h1 : t.kind = 1) (h3 : 0 ≤ fnd C t) (h4 : ¬ (C.getD (fnd C t).toNat default).depth = 0) : bli t C q = (zY, false, q) := by
  rw [bli_eq, if_pos ⟨h1, h3⟩, if_pos (show (capOf C t).depth ≠ 0 from h4)]
theorem bli_b2 (h1 : t.kind = 1) (h3 : 0 ≤ fnd C t) (h4 : (C.getD (fnd C t).toNat default).depth = 0) (h5 : (meaY (C.getD (fnd C t).toNat default).form 1 0).1 = false) : bli t C q = (zY, false, q) := by
  rw [meaY_isSyn] at h5
  rw [bli_eq, if_pos ⟨h1, h3⟩, if_neg (by intro e; exact e h4), if_neg (by show ¬ isSyn (C.getD (fnd C t).toNat default).form = true; rw [h5]; decide)]
theorem bli_b3 (h1 : t.kind = 1) (h3 : 0 ≤ fnd C t) (h4 : (C.getD (fnd C t).toNat default).depth = 0) (h5 : (meaY (C.getD (fnd C t).toNat default).form 1 0).1 = true) : bli t C q = ((C.getD (fnd C t).toNat default).form, decide (0 ≤ q - (meaY (C.getD (fnd C t).toNat default).form 1 0).2), q - (meaY (C.getD (fnd C t).toNat default).form 1 0).2) := by
  have e := (meaY_of (C.getD (fnd C t).toNat default).form 1 0 (by decide)).2 h5
  rw [meaY_isSyn] at h5
  rw [bli_eq, if_pos ⟨h1, h3⟩, if_neg (by intro e; exact e h4), if_pos (show isSyn (capOf C t).form = true from h5), e, Int.zero_add]; rfl
theorem bli_b4 (h1 : ¬ (t.kind = 1 ∧ 0 ≤ fnd C t)) (h : q - 1 < 0) : bli t C q = (zY, false, q - 1) := by rw [bli_eq, if_neg h1, if_pos h]
theorem bli_b5 (h1 : ¬ (t.kind = 1 ∧ 0 ≤ fnd C t)) (h : ¬ q - 1 < 0) (h2 : (blis t.items C (q - 1) []).2.1 = true) : bli t C q = (⟨t.kind, t.number, t.text, t.scopes, (blis t.items C (q - 1) []).1⟩, true, (blis t.items C (q - 1) []).2.2) := by rw [bli_eq, if_neg h1, if_neg h, if_pos h2]
theorem bli_b6 (h1 : ¬ (t.kind = 1 ∧ 0 ≤ fnd C t)) (h : ¬ q - 1 < 0) (h2 : (blis t.items C (q - 1) []).2.1 = false) : bli t C q = (zY, false, (blis t.items C (q - 1) []).2.2) := by rw [bli_eq, if_neg h1, if_neg h, if_neg (by rw [h2]; decide)]
theorem bN_le (hC : ∀ z ∈ C, wP z ≤ 1048576) {x : Syntax} (h : cnB C x = true) : bN C x ≤ 1048576 := by
  have h' := h
  simp only [cnB, Bool.and_eq_true, decide_eq_true_eq] at h'
  obtain ⟨y, hy, hr⟩ := cnN_rep _ (Nat.le_refl _) h'.2
  have hr' := hr
  unfold rep at hr'
  rw [Bool.and_eq_true, decide_eq_true_eq, decide_eq_true_eq] at hr'
  have e := cnB_each h hy hr'.1 hr'.2
  have h1 := fnd_lt C y
  have h2 := hC (C.getD (fnd C y).toNat default) (getD_mem' (by omega))
  have h3 := wP_eq (C.getD (fnd C y).toNat default)
  omega
theorem cnB_lt {x : Syntax} {k : Nat} (h : cnB C x = true) (hk : (k : Int) < if cnOK C (idsY x []) (idsY x []).length = true then cnN C (idsY x []) (idsY x []).length else 0) : k < bN C x := by
  simp only [cnB, Bool.and_eq_true, decide_eq_true_eq] at h
  rw [if_pos h.1] at hk; simp only [bN]; omega
theorem cnB_ge {x : Syntax} {k : Nat} (h : cnB C x = true) (hk : ¬ (k : Int) < if cnOK C (idsY x []) (idsY x []).length = true then cnN C (idsY x []) (idsY x []).length else 0) : bN C x ≤ k := by
  simp only [cnB, Bool.and_eq_true, decide_eq_true_eq] at h
  rw [if_pos h.1] at hk; simp only [bN]; omega
end
theorem bR_stop {C : List Capture} {x : Syntax} {j : Nat} {q : Int} {O : List Syntax} (hj : j ≤ bN C x ∨ cnB C x = false) (h : (bJ C x j q O).2.1 = false) : bR C x q O = bJ C x j q O := by
  rcases hj with hj | hj
  · exact bJ_stop C x j q O h hj
  · unfold bR bJ; rw [if_neg (by rw [hj]; decide), if_neg (by rw [hj]; decide)]
theorem bR_done {C : List Capture} {x : Syntax} {j : Nat} {q : Int} {O : List Syntax} (hj : j ≤ bN C x ∨ cnB C x = false) (h0 : 0 ≤ q) (h : (bJ C x j q O).2.1 = true) (hk : ¬ (j : Int) < if cnOK C (idsY x []) (idsY x []).length = true then cnN C (idsY x []) (idsY x []).length else 0) : bR C x q O = bJ C x j q O := by
  have h1 := (bJ_bd C x j q O h0 h).2.2
  have h2 := cnB_ge h1 hk
  rcases hj with hj | hj
  · exact bJ_end C x j q O (by omega)
  · rw [h1] at hj; cases hj
theorem iR_bd (C : List Capture) (x : Syntax) (q : Int) (O : List Syntax) (h0 : 0 ≤ q) (h : (iR C x q O).2.1 = true) : 0 ≤ (iR C x q O).2.2 ∧ ((iR C x q O).1.length : Int) + (iR C x q O).2.2 ≤ O.length + q := by
  unfold iR at h ⊢
  by_cases c : rqB C x = true
  · rw [if_pos c] at h ⊢; exact iI_bd C x _ q O h0 h
  · rw [if_neg c] at h; cases h
theorem rpX_at {C : List Capture} {x : Syntax} {j : Nat} (h : j < (rpX C x).length) : 0 ≤ (rpX C x).getD j 0 ∧ (rpX C x).getD j 0 < C.length ∧ ((rpX C x).getD j 0).toNat < C.length := by
  have h1 : (rpX C x).getD j 0 ∈ rpX C x := getD_mem' h
  obtain ⟨y, _, hr, e⟩ := rpX_mem.1 h1
  have h2 := (rep_len hr).2
  have h3 := fnd_lt C y
  rw [e] at h2 h3
  omega
theorem rqA_step {C : List Capture} {I : List Int} {n : Int} {j : Nat} (h : j < I.length) (h0 : rqA C (I.take j) n = true) (e : ((C.getD (I.getD j 0).toNat default).each.length : Int) = n) : rqA C (I.take (j + 1)) n = true := by
  have e2 : I.getD j default = I.getD j 0 := rfl
  unfold rqA at *; rw [take_get h, List.all_append, h0, e2]
  simp only [List.all_cons, List.all_nil, Bool.and_true, Bool.true_and]; exact decide_eq_true (show lnI C (I.getD j 0) = n from e)
theorem rqA_stop {C : List Capture} {I : List Int} {n : Int} {j : Nat} (h : j < I.length) (e : ¬ ((C.getD (I.getD j 0).toNat default).each.length : Int) = n) : rqA C I n = false := by
  unfold rqA; rw [List.all_eq_false]; exact ⟨I.getD j 0, getD_mem' h, by rw [show decide (lnI C (I.getD j 0) = n) = false from decide_eq_false e]; decide⟩
theorem rqB_of {C : List Capture} {x : Syntax} {j : Nat} (h0 : 0 < (rpX C x).length) (h : (rpX C x).length ≤ j) (e : rqA C ((rpX C x).take j) (lnI C ((rpX C x).getD 0 0)) = true) : rqB C x = true := by
  rw [List.take_of_length_le h] at e
  have e2 : (rpX C x).getD 0 default = (rpX C x).getD 0 0 := rfl
  unfold rqB; rw [e2, e, decide_eq_false (by omega)]; rfl
theorem rqB_no {C : List Capture} {x : Syntax} {j : Nat} (h : j < (rpX C x).length) (e : ¬ ((C.getD ((rpX C x).getD j 0).toNat default).each.length : Int) = ((C.getD ((rpX C x).getD 0 0).toNat default).each.length : Int)) (q : Int) (O : List Syntax) : iR C x q O = (O, false, q) := by
  have e2 : (rpX C x).getD 0 default = (rpX C x).getD 0 0 := rfl
  have h1 := rqA_stop h e
  unfold iR rqB; rw [e2, show lnI C ((rpX C x).getD 0 0) = ((C.getD ((rpX C x).getD 0 0).toNat default).each.length : Int) from rfl, h1]; simp
theorem rqB_each {C : List Capture} {x : Syntax} (h : rqB C x = true) {j : Nat} (hj : j < (rpX C x).length) : (C.getD ((rpX C x).getD j 0).toNat default).each.length = rqN C x := by
  simp only [rqB, rqA, Bool.and_eq_true, List.all_eq_true, decide_eq_true_eq] at h
  have := h.2 _ (getD_mem' hj)
  simp only [lnI] at this
  exact Int.ofNat.inj this
theorem rqN_le {C : List Capture} (hC : ∀ z ∈ C, wP z ≤ 1048576) {x : Syntax} (h0 : 0 < (rpX C x).length) : rqN C x ≤ 1048576 := by
  have h1 := rpX_at h0
  have h2 := hC _ (getD_mem' h1.2.2)
  have h3 := wP_eq (C.getD ((rpX C x).getD 0 0).toNat default)
  have e2 : (rpX C x).getD 0 default = (rpX C x).getD 0 0 := rfl
  simp only [rqN, e2]; omega
theorem stq_end {C : List Capture} {x : Syntax} {a k : Nat} (h : (rpX C x).length ≤ k) : stqT C a ((rpX C x).take k) = stq C x a := by rw [List.take_of_length_le h]
theorem iR_eq {C : List Capture} {x : Syntax} {j : Nat} {q : Int} {O : List Syntax} (h : rqB C x = true) (hj : j ≤ rqN C x) (hn : rqN C x ≤ j) : iR C x q O = iI C x j q O := by
  unfold iR; rw [if_pos h, show rqN C x = j by omega]
theorem iR_bad {C : List Capture} {x : Syntax} {j : Nat} {q : Int} {O : List Syntax} (h : rqB C x = true) (hj : j < rqN C x) (h1 : (iI C x j q O).2.1 = true) (h2 : (bli x (stq C x j) (iI C x j q O).2.2).2.1 = false) : (iR C x q O).2.1 = false ∧ (iR C x q O).2.2 = (bli x (stq C x j) (iI C x j q O).2.2).2.2 := by
  have e := iI_step C x j q O h1
  have e2 := iI_stop C x (j + 1) (rqN C x) q O (by rw [e]; exact h2) (by omega)
  unfold iR; rw [if_pos h, e2, e]; exact ⟨h2, rfl⟩
theorem cap_set {C : List Capture} {k : Nat} {x : Capture} : (C.map captureC).set k (captureF x) = (C.set k x).map captureC := by rw [List.map_set, captureC_eq]
theorem dfI : (default : Int) = 0 := rfl
theorem rqA_step' {C : List Capture} {I : List Int} {j : Nat} (h : j < I.length) (h0 : rqA C (I.take j) (lnI C (I.getD 0 0)) = true) (e : ((C.getD (I.getD j 0).toNat default).each.length : Int) = ((C.getD (I.getD 0 0).toNat default).each.length : Int)) : rqA C (I.take (j + 1)) (lnI C (I.getD 0 0)) = true := rqA_step h h0 e
theorem ite_fnd {k : Prop} [Decidable k] {x : Int} (h : 0 ≤ if k then x else -1) : k ∧ 0 ≤ x := by
  split at h
  · exact ⟨‹_›, h⟩
  · omega
theorem meaY_bd (s : Syntax) (h : (meaY s 1 0).1 = true) : 0 ≤ (meaY s 1 0).2 ∧ (meaY s 1 0).2 ≤ 2000 := by
  have h1 := ((meaY_of s 1 0 (by decide)).1).1 h
  have h2 := (meaY_of s 1 0 (by decide)).2 h
  omega
end Go.Proofs.Ytegbadciefljcaa
end
