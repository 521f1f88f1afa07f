/- The contracts of BoundVariables (both packages) and of the law that compares them. No condition. -/
import Derived.Test.YtjaahbkdpodbbaaMark1
namespace Go.Proofs.Ytjaahbkdpodbbaa
open Go Go.Proofs.Ytjaahbkdpodbbaa.Ab
set_option linter.unusedVariables false
set_option linter.unusedSimpArgs false
set_option maxHeartbeats 4000000

theorem rowLit {L : List Int} {e : List Cell} (he : e ∈ L.map intC) {c : Cell} (hc : c ∈ e) : ∃ v, c = Cell.lit v := by
  obtain ⟨x, _, rfl⟩ := List.mem_map.1 he
  rw [List.mem_singleton.1 hc]; exact ⟨_, rfl⟩
mutual
def bnd : Core → List Int
  | ⟨_, _, p, _, l⟩ => p ++ bnds l
def bnds : List Core → List Int
  | [] => []
  | x :: r => bnd x ++ bnds r
end
theorem bnds_eq : ∀ l, bnds l = l.flatMap bnd
  | [] => by simp [bnds]
  | x :: r => by rw [bnds, bnds_eq r]; simp
theorem bnd_eq (x : Core) : bnd x = x.params ++ x.kids.flatMap bnd := by cases x; simp only [bnd, bnds_eq]
theorem flat_take {α β : Type} [Inhabited α] (f : α → List β) {L : List α} {k : Nat} (h : k < L.length) : (L.take (k + 1)).flatMap f = (L.take k).flatMap f ++ f (L.getD k default) := by
  rw [take_get h]; simp
theorem flat_len {α β : Type} (f : α → List β) : ∀ L : List α, (L.flatMap f).length = sumBy (fun x => (f x).length) L
  | [] => rfl
  | x :: r => by simp only [List.flatMap_cons, List.length_append, flat_len f r, sumBy]
theorem flat_takeLe {α β : Type} (f : α → List β) (L : List α) (k : Nat) : ((L.take k).flatMap f).length ≤ (L.flatMap f).length := by
  rw [flat_len, flat_len]; exact sumBy_takeLe _ _ _

def Tc_sBound_sLa (c : Core) (A : List Int) (x0 : SV) (x1 : Ob) : St := St.mk (regsOf 23 [(1, AV.sv (SV.one (AC.ref 1))), (12, AV.sv (ll (List.map coreC (Core.kids c)))), (13,
 AV.sv (li (↑(List.length (List.map coreC (Core.kids c))) : Int))), (14, AV.sv x0)]) [Ob.dead, x1] 1 
def Lc_sBound_sLa (c : Core) (A : List Int) (k : Nat) : St := Tc_sBound_sLa c A (li (↑k : Int)) (Ob.arr true 1 (List.map intC (A ++ Core.params c ++ List.flatMap bnd (List.take k
 (Core.kids c))))) 
def Ic_sBound_sLa (c : Core) (A : List Int) : Nat → St → Prop := Head (Lc_sBound_sLa c A) (fun k => k ≤ List.length (Core.kids c) ∧ List.length (Core.kids c) ≤ 9223372036854775807)
 fun k => List.length (Core.kids c) - k 
def W0c_sBound_sLa (c : Core) (A : List Int) (x0 : Ob) : St := St.mk (regsOf 23 [(1, AV.sv (SV.one (AC.ref 1)))]) [Ob.dead, x0] 1 
def Yc_sBound_sLa (c : Core) (A : List Int) : List (Prop × AEx × St) := [(True, AEx.exit 0, W0c_sBound_sLa c A (Ob.arr true 1 (List.map intC (A ++ bnd c))))]
theorem Hc_sBound_sLa {c : Core} {A : List Int} {k : Nat} {m : Nat} (h : (fun k => k ≤ List.length (Core.kids c) ∧ List.length (Core.kids c) ≤ 9223372036854775807) k) (hm : (fun k
 => List.length (Core.kids c) - k) k = m) : Ic_sBound_sLa c A m (Lc_sBound_sLa c A k) := hm ▸ Head.mk h
theorem Ec_sBound_sLa {c : Core} {A : List Int} {k : Nat} {x0 : SV} {x1 : Ob} (h0 : x0 = (li (↑k : Int))) (h1 : x1 = (Ob.arr true 1 (List.map intC (A ++ Core.params c ++
 List.flatMap bnd (List.take k (Core.kids c)))))) : Tc_sBound_sLa c A x0 x1 = Lc_sBound_sLa c A k := by (rw [h0, h1]; rfl)
theorem run_c_sBound_sLa (c : Core) (A : List Int) (k : Nat) : aexec Try.prog (loopAt Try.f70 0) (Lc_sBound_sLa c A k) [Orc.br [Orc.cells (coreF (List.getD (Core.kids c) k
 default)), Orc.call [Mode.rd, Mode.own true 1] [Ob.dead, Ob.arr true 1 (List.map intC (A ++ Core.params c ++ List.flatMap bnd (List.take k (Core.kids c)) ++ bnd (List.getD
 (Core.kids c) k default)))] (AV.sv (SV.one (AC.ref 1))), Orc.ghost (Ghost.sel [0, 4] [1, 12, 13, 14]), Orc.goto (List.length (Core.kids c) - (k + 1)) (Lc_sBound_sLa c A (k + 1))]
 [Orc.ghost (Ghost.sel [0, 1] [1]), Orc.out 0]] (loopK (Ic_sBound_sLa c A) (Yc_sBound_sLa c A) (List.length (Core.kids c) - k)) = ((decide ((↑k : Int) < (↑(List.length (List.map
 coreC (Core.kids c))) : Int)) = true → (0 ≤ (↑k : Int) ∧ (List.map coreC (Core.kids c))[Int.toNat (↑k : Int)]? = some (coreF (List.getD (Core.kids c) k default))) ∧ CallOK
 Try.prog (70 : FuncId) [Ob.arr true 1 (List.map intC (A ++ Core.params c ++ List.flatMap bnd (List.take k (Core.kids c))))] [coreA (List.getD (Core.kids c) k default), SV.one
 (AC.ref 0)] [Ob.dead, Ob.arr true 1 (List.map intC (A ++ Core.params c ++ List.flatMap bnd (List.take k (Core.kids c)) ++ bnd (List.getD (Core.kids c) k default)))] (AV.sv (SV.one
 (AC.ref 1))) ∧ rng IntKind.i64 ((↑k : Int) + 1) ∧ List.length (Core.kids c) - (k + 1) < List.length (Core.kids c) - k ∧ Tc_sBound_sLa c A (li ((↑k : Int) + 1)) (Ob.arr true 1
 (List.map intC (A ++ Core.params c ++ List.flatMap bnd (List.take k (Core.kids c)) ++ bnd (List.getD (Core.kids c) k default)))) = Lc_sBound_sLa c A (k + 1) ∧ Ic_sBound_sLa c A
 (List.length (Core.kids c) - (k + 1)) (Lc_sBound_sLa c A (k + 1))) ∧ (decide ((↑k : Int) < (↑(List.length (List.map coreC (Core.kids c))) : Int)) = false → True ∧ W0c_sBound_sLa c
 A (Ob.arr true 1 (List.map intC (A ++ Core.params c ++ List.flatMap bnd (List.take k (Core.kids c))))) = W0c_sBound_sLa c A (Ob.arr true 1 (List.map intC (A ++ bnd c))))) := by
 kernel_rfl
theorem Sc_sBound_sLa (c : Core) (A : List Int) (h : List.length A + List.length (bnd c) ≤ 2147483647) (ih : ∀ (z : Core), z ∈ Core.kids c → ∀ (A : List Int), List.length A +
 List.length (bnd z) ≤ 2147483647 → CallOK Try.prog (70 : FuncId) [Ob.arr true 1 (List.map intC A)] [coreA z, SV.one (AC.ref 0)] [Ob.dead, Ob.arr true 1 (List.map intC (A ++ bnd
 z))] (AV.sv (SV.one (AC.ref 1))))  : LoopSem Try.prog (loopAt Try.f70 0) (Ic_sBound_sLa c A) (Yc_sBound_sLa c A) := by
  refine LoopSem.ofHead wide fun k h => ⟨_, _, run_c_sBound_sLa c A k, ?_⟩
  have g0 := flat_takeLe bnd c.kids (k + 1)
  with_reducible repeat' (first | apply And.intro | (intro; skip) | apply Hc_sBound_sLa | apply Ec_sBound_sLa | apply ih)
  all_goals (try simp only [size_list, List.length_map, Int.toNat_natCast, rng64, obsEq_iff, List.length_append, List.length_replicate, fillTo_len, decide_eq_true_eq, decide_eq_false_iff_not, ne_eq, lb_inj, li_inj, ls_inj, mk_toArray, tx_mkS, mkS_inj, size_mkS, mkTo_len, mkTo_zero, cOne_sum, seqM_len, List.length_set, List.set_set, List.take_zero, sumBy, Int.natCast_zero, Int.add_zero] at *)
  all_goals (try (first | with_reducible rfl | omega | assumption | exact getC (by first | omega | (simp only [fillTo_len, mkTo_len]; omega) | grind) rfl | exact outcomeGet (by first | omega | (simp only [fillTo_len, mkTo_len]; omega) | grind) | exact datumGet (by first | omega | (simp only [fillTo_len, mkTo_len]; omega) | grind) | exact coreGet (by first | omega | (simp only [fillTo_len, mkTo_len]; omega) | grind) | exact congrArg (Ob.arr true _) (fill_step (by first | omega | (simp only [fillTo_len, mkTo_len]; omega) | grind) (by first | rfl | exact outcomeC_eq _ | exact datumC_eq _ | exact coreC_eq _)) | exact congrArg (Ob.arr true _) (fill_init (by first | rfl | exact outcomeC_eq _ | exact datumC_eq _ | exact coreC_eq _)) | exact set_row (by simp only [List.length_map, List.length_set, mkTo_len]; omega) | exact (by first | exact rowLit (by assumption) (by assumption) | exact rowLen intC_len (by assumption) | exact rowLen strC_len (by assumption) | exact rowLen outcomeC_len (by assumption) | exact rowLen datumC_len (by assumption) | exact rowLen coreC_len (by assumption)) | exact mkTo_row (by first | omega | (simp only [fillTo_len, mkTo_len]; omega) | grind) (by first | rfl | exact outcomeC_eq _ | exact datumC_eq _ | exact coreC_eq _) | exact congrArg (Ob.arr true _) (mkTo_step (by first | omega | (simp only [fillTo_len, mkTo_len]; omega) | grind) (by grind [flat_take, getD_mem', bnd_eq])) | grind [flat_take, getD_mem', bnd_eq]))
theorem run_c_sBound_s (c : Core) (A : List Int) : aexec Try.prog (Option.getD (Func.body Try.f70) Code.skip) (entry [Ob.arr true 1 (List.map intC A)] [coreA c, SV.one (AC.ref 0)]
 23) [Orc.ghost (Ghost.sel [0, 2] [1, 12, 13, 14]), Orc.loop (List.length (Core.kids c) - 0) (Lc_sBound_sLa c A 0) (Ic_sBound_sLa c A) [(True, AEx.exit 0, W0c_sBound_sLa c A
 (Ob.arr true 1 (List.map intC (A ++ bnd c))), [Orc.fin [1]])]] (finK Try.prog [ResultVar.tmp 4] [Ob.dead, Ob.arr true 1 (List.map intC (A ++ bnd c))] (AV.sv (SV.one (AC.ref 1))))
 = ((∀ (e : List Cell), e ∈ List.map intC (Core.params c) → ∀ (c : Cell), c ∈ e → ∃ v, c = Cell.lit v) ∧ (∀ (e : List Cell), e ∈ List.map intC (Core.params c) → List.length e = 1)
 ∧ (List.length (List.map intC A) + List.length (List.map intC (Core.params c))) * 8 ≤ 140737488355328 ∧ (List.length (List.map coreC (Core.kids c)) ≤ 9223372036854775807 →
 Tc_sBound_sLa c A (li 0) (Ob.arr true 1 (List.map intC A ++ List.map intC (Core.params c))) = Lc_sBound_sLa c A 0 ∧ Ic_sBound_sLa c A (List.length (Core.kids c) - 0)
 (Lc_sBound_sLa c A 0) ∧ LoopSem Try.prog (loopAt Try.f70 0) (Ic_sBound_sLa c A) (Yc_sBound_sLa c A) ∧ (True → ObsEq [Ob.dead, Ob.arr true 1 (List.map intC (A ++ bnd c))] [Ob.dead,
 Ob.arr true 1 (List.map intC (A ++ bnd c))] ∧ AV.sv (SV.one (AC.ref 1)) = AV.sv (SV.one (AC.ref 1))) ∧ True)) := by kernel_rfl
theorem c_sBound_s (c : Core) (A : List Int) (h : A.length + (bnd c).length ≤ 2147483647) (ih : ∀ z ∈ c.kids, ∀ (A : List Int) (h : A.length + (bnd z).length ≤ 2147483647), CallOK
 Try.prog 70 [.arr true 1 (A.map intC)] [coreA z, .one (.ref 0)] [.dead, .arr true 1 ((A ++ bnd z).map intC)] (.sv (.one (.ref 1))))  : CallOK Try.prog 70 [.arr true 1 (A.map
 intC)] [coreA c, .one (.ref 0)] [.dead, .arr true 1 ((A ++ bnd c).map intC)] (.sv (.one (.ref 1))) := by
  refine CallOK.ofRun wide (run_c_sBound_s c A) Try.call70 Try.func70 rfl rfl rfl ?_
  with_reducible repeat' (first | apply And.intro | (intro; skip) | apply Hc_sBound_sLa | apply Ec_sBound_sLa | apply Sc_sBound_sLa)
  all_goals (try simp only [size_list, List.length_map, Int.toNat_natCast, rng64, obsEq_iff, List.length_append, List.length_replicate, fillTo_len, decide_eq_true_eq, decide_eq_false_iff_not, ne_eq, lb_inj, li_inj, ls_inj, mk_toArray, tx_mkS, mkS_inj, size_mkS, mkTo_len, mkTo_zero, cOne_sum, seqM_len, List.length_set, List.set_set, List.take_zero, sumBy, Int.natCast_zero, Int.add_zero] at *)
  all_goals (try (first | with_reducible rfl | omega | assumption | exact getC (by first | omega | (simp only [fillTo_len, mkTo_len]; omega) | grind) rfl | exact outcomeGet (by first | omega | (simp only [fillTo_len, mkTo_len]; omega) | grind) | exact datumGet (by first | omega | (simp only [fillTo_len, mkTo_len]; omega) | grind) | exact coreGet (by first | omega | (simp only [fillTo_len, mkTo_len]; omega) | grind) | exact congrArg (Ob.arr true _) (fill_step (by first | omega | (simp only [fillTo_len, mkTo_len]; omega) | grind) (by first | rfl | exact outcomeC_eq _ | exact datumC_eq _ | exact coreC_eq _)) | exact congrArg (Ob.arr true _) (fill_init (by first | rfl | exact outcomeC_eq _ | exact datumC_eq _ | exact coreC_eq _)) | exact set_row (by simp only [List.length_map, List.length_set, mkTo_len]; omega) | exact (by first | exact rowLit (by assumption) (by assumption) | exact rowLen intC_len (by assumption) | exact rowLen strC_len (by assumption) | exact rowLen outcomeC_len (by assumption) | exact rowLen datumC_len (by assumption) | exact rowLen coreC_len (by assumption)) | exact mkTo_row (by first | omega | (simp only [fillTo_len, mkTo_len]; omega) | grind) (by first | rfl | exact outcomeC_eq _ | exact datumC_eq _ | exact coreC_eq _) | exact congrArg (Ob.arr true _) (mkTo_step (by first | omega | (simp only [fillTo_len, mkTo_len]; omega) | grind) (by grind [bnd_eq])) | grind [bnd_eq]))

theorem c_sBound (c : Core) : ∀ (A : List Int) (h : A.length + (bnd c).length ≤ 2147483647), CallOK Try.prog 70 [.arr true 1 (A.map intC)] [coreA c, .one (.ref 0)] [.dead, .arr true 1 ((A ++ bnd c).map intC)] (.sv (.one (.ref 1))) := Core.ind (P := fun c => ∀ (A : List Int) (h : A.length + (bnd c).length ≤ 2147483647), CallOK Try.prog 70 [.arr true 1 (A.map intC)] [coreA c, .one (.ref 0)] [.dead, .arr true 1 ((A ++ bnd c).map intC)] (.sv (.one (.ref 1)))) (fun c ih A h => c_sBound_s c A h ih) c
def Tc_iBound_sLa (c : Core) (A : List Int) (x0 : SV) (x1 : Ob) : St := St.mk (regsOf 23 [(1, AV.sv (SV.one (AC.ref 1))), (12, AV.sv (ll (List.map coreC (Core.kids c)))), (13,
 AV.sv (li (↑(List.length (List.map coreC (Core.kids c))) : Int))), (14, AV.sv x0)]) [Ob.dead, x1] 1 
def Lc_iBound_sLa (c : Core) (A : List Int) (k : Nat) : St := Tc_iBound_sLa c A (li (↑k : Int)) (Ob.arr true 1 (List.map intC (A ++ Core.params c ++ List.flatMap bnd (List.take k
 (Core.kids c))))) 
def Ic_iBound_sLa (c : Core) (A : List Int) : Nat → St → Prop := Head (Lc_iBound_sLa c A) (fun k => k ≤ List.length (Core.kids c) ∧ List.length (Core.kids c) ≤ 9223372036854775807)
 fun k => List.length (Core.kids c) - k 
def W0c_iBound_sLa (c : Core) (A : List Int) (x0 : Ob) : St := St.mk (regsOf 23 [(1, AV.sv (SV.one (AC.ref 1)))]) [Ob.dead, x0] 1 
def Yc_iBound_sLa (c : Core) (A : List Int) : List (Prop × AEx × St) := [(True, AEx.exit 0, W0c_iBound_sLa c A (Ob.arr true 1 (List.map intC (A ++ bnd c))))]
theorem Hc_iBound_sLa {c : Core} {A : List Int} {k : Nat} {m : Nat} (h : (fun k => k ≤ List.length (Core.kids c) ∧ List.length (Core.kids c) ≤ 9223372036854775807) k) (hm : (fun k
 => List.length (Core.kids c) - k) k = m) : Ic_iBound_sLa c A m (Lc_iBound_sLa c A k) := hm ▸ Head.mk h
theorem Ec_iBound_sLa {c : Core} {A : List Int} {k : Nat} {x0 : SV} {x1 : Ob} (h0 : x0 = (li (↑k : Int))) (h1 : x1 = (Ob.arr true 1 (List.map intC (A ++ Core.params c ++
 List.flatMap bnd (List.take k (Core.kids c)))))) : Tc_iBound_sLa c A x0 x1 = Lc_iBound_sLa c A k := by (rw [h0, h1]; rfl)
theorem run_c_iBound_sLa (c : Core) (A : List Int) (k : Nat) : aexec Try.prog (loopAt Try.f71 0) (Lc_iBound_sLa c A k) [Orc.br [Orc.cells (coreF (List.getD (Core.kids c) k
 default)), Orc.call [Mode.rd, Mode.own true 1] [Ob.dead, Ob.arr true 1 (List.map intC (A ++ Core.params c ++ List.flatMap bnd (List.take k (Core.kids c)) ++ bnd (List.getD
 (Core.kids c) k default)))] (AV.sv (SV.one (AC.ref 1))), Orc.ghost (Ghost.sel [0, 4] [1, 12, 13, 14]), Orc.goto (List.length (Core.kids c) - (k + 1)) (Lc_iBound_sLa c A (k + 1))]
 [Orc.ghost (Ghost.sel [0, 1] [1]), Orc.out 0]] (loopK (Ic_iBound_sLa c A) (Yc_iBound_sLa c A) (List.length (Core.kids c) - k)) = ((decide ((↑k : Int) < (↑(List.length (List.map
 coreC (Core.kids c))) : Int)) = true → (0 ≤ (↑k : Int) ∧ (List.map coreC (Core.kids c))[Int.toNat (↑k : Int)]? = some (coreF (List.getD (Core.kids c) k default))) ∧ CallOK
 Try.prog (71 : FuncId) [Ob.arr true 1 (List.map intC (A ++ Core.params c ++ List.flatMap bnd (List.take k (Core.kids c))))] [coreA (List.getD (Core.kids c) k default), SV.one
 (AC.ref 0)] [Ob.dead, Ob.arr true 1 (List.map intC (A ++ Core.params c ++ List.flatMap bnd (List.take k (Core.kids c)) ++ bnd (List.getD (Core.kids c) k default)))] (AV.sv (SV.one
 (AC.ref 1))) ∧ rng IntKind.i64 ((↑k : Int) + 1) ∧ List.length (Core.kids c) - (k + 1) < List.length (Core.kids c) - k ∧ Tc_iBound_sLa c A (li ((↑k : Int) + 1)) (Ob.arr true 1
 (List.map intC (A ++ Core.params c ++ List.flatMap bnd (List.take k (Core.kids c)) ++ bnd (List.getD (Core.kids c) k default)))) = Lc_iBound_sLa c A (k + 1) ∧ Ic_iBound_sLa c A
 (List.length (Core.kids c) - (k + 1)) (Lc_iBound_sLa c A (k + 1))) ∧ (decide ((↑k : Int) < (↑(List.length (List.map coreC (Core.kids c))) : Int)) = false → True ∧ W0c_iBound_sLa c
 A (Ob.arr true 1 (List.map intC (A ++ Core.params c ++ List.flatMap bnd (List.take k (Core.kids c))))) = W0c_iBound_sLa c A (Ob.arr true 1 (List.map intC (A ++ bnd c))))) := by
 kernel_rfl
theorem Sc_iBound_sLa (c : Core) (A : List Int) (h : List.length A + List.length (bnd c) ≤ 2147483647) (ih : ∀ (z : Core), z ∈ Core.kids c → ∀ (A : List Int), List.length A +
 List.length (bnd z) ≤ 2147483647 → CallOK Try.prog (71 : FuncId) [Ob.arr true 1 (List.map intC A)] [coreA z, SV.one (AC.ref 0)] [Ob.dead, Ob.arr true 1 (List.map intC (A ++ bnd
 z))] (AV.sv (SV.one (AC.ref 1))))  : LoopSem Try.prog (loopAt Try.f71 0) (Ic_iBound_sLa c A) (Yc_iBound_sLa c A) := by
  refine LoopSem.ofHead wide fun k h => ⟨_, _, run_c_iBound_sLa c A k, ?_⟩
  have g0 := flat_takeLe bnd c.kids (k + 1)
  with_reducible repeat' (first | apply And.intro | (intro; skip) | apply Hc_iBound_sLa | apply Ec_iBound_sLa | apply ih)
  all_goals (try simp only [size_list, List.length_map, Int.toNat_natCast, rng64, obsEq_iff, List.length_append, List.length_replicate, fillTo_len, decide_eq_true_eq, decide_eq_false_iff_not, ne_eq, lb_inj, li_inj, ls_inj, mk_toArray, tx_mkS, mkS_inj, size_mkS, mkTo_len, mkTo_zero, cOne_sum, seqM_len, List.length_set, List.set_set, List.take_zero, sumBy, Int.natCast_zero, Int.add_zero] at *)
  all_goals (try (first | with_reducible rfl | omega | assumption | exact getC (by first | omega | (simp only [fillTo_len, mkTo_len]; omega) | grind) rfl | exact outcomeGet (by first | omega | (simp only [fillTo_len, mkTo_len]; omega) | grind) | exact datumGet (by first | omega | (simp only [fillTo_len, mkTo_len]; omega) | grind) | exact coreGet (by first | omega | (simp only [fillTo_len, mkTo_len]; omega) | grind) | exact congrArg (Ob.arr true _) (fill_step (by first | omega | (simp only [fillTo_len, mkTo_len]; omega) | grind) (by first | rfl | exact outcomeC_eq _ | exact datumC_eq _ | exact coreC_eq _)) | exact congrArg (Ob.arr true _) (fill_init (by first | rfl | exact outcomeC_eq _ | exact datumC_eq _ | exact coreC_eq _)) | exact set_row (by simp only [List.length_map, List.length_set, mkTo_len]; omega) | exact (by first | exact rowLit (by assumption) (by assumption) | exact rowLen intC_len (by assumption) | exact rowLen strC_len (by assumption) | exact rowLen outcomeC_len (by assumption) | exact rowLen datumC_len (by assumption) | exact rowLen coreC_len (by assumption)) | exact mkTo_row (by first | omega | (simp only [fillTo_len, mkTo_len]; omega) | grind) (by first | rfl | exact outcomeC_eq _ | exact datumC_eq _ | exact coreC_eq _) | exact congrArg (Ob.arr true _) (mkTo_step (by first | omega | (simp only [fillTo_len, mkTo_len]; omega) | grind) (by grind [flat_take, getD_mem', bnd_eq])) | grind [flat_take, getD_mem', bnd_eq]))
theorem run_c_iBound_s (c : Core) (A : List Int) : aexec Try.prog (Option.getD (Func.body Try.f71) Code.skip) (entry [Ob.arr true 1 (List.map intC A)] [coreA c, SV.one (AC.ref 0)]
 23) [Orc.ghost (Ghost.sel [0, 2] [1, 12, 13, 14]), Orc.loop (List.length (Core.kids c) - 0) (Lc_iBound_sLa c A 0) (Ic_iBound_sLa c A) [(True, AEx.exit 0, W0c_iBound_sLa c A
 (Ob.arr true 1 (List.map intC (A ++ bnd c))), [Orc.fin [1]])]] (finK Try.prog [ResultVar.tmp 4] [Ob.dead, Ob.arr true 1 (List.map intC (A ++ bnd c))] (AV.sv (SV.one (AC.ref 1))))
 = ((∀ (e : List Cell), e ∈ List.map intC (Core.params c) → ∀ (c : Cell), c ∈ e → ∃ v, c = Cell.lit v) ∧ (∀ (e : List Cell), e ∈ List.map intC (Core.params c) → List.length e = 1)
 ∧ (List.length (List.map intC A) + List.length (List.map intC (Core.params c))) * 8 ≤ 140737488355328 ∧ (List.length (List.map coreC (Core.kids c)) ≤ 9223372036854775807 →
 Tc_iBound_sLa c A (li 0) (Ob.arr true 1 (List.map intC A ++ List.map intC (Core.params c))) = Lc_iBound_sLa c A 0 ∧ Ic_iBound_sLa c A (List.length (Core.kids c) - 0)
 (Lc_iBound_sLa c A 0) ∧ LoopSem Try.prog (loopAt Try.f71 0) (Ic_iBound_sLa c A) (Yc_iBound_sLa c A) ∧ (True → ObsEq [Ob.dead, Ob.arr true 1 (List.map intC (A ++ bnd c))] [Ob.dead,
 Ob.arr true 1 (List.map intC (A ++ bnd c))] ∧ AV.sv (SV.one (AC.ref 1)) = AV.sv (SV.one (AC.ref 1))) ∧ True)) := by kernel_rfl
theorem c_iBound_s (c : Core) (A : List Int) (h : A.length + (bnd c).length ≤ 2147483647) (ih : ∀ z ∈ c.kids, ∀ (A : List Int) (h : A.length + (bnd z).length ≤ 2147483647), CallOK
 Try.prog 71 [.arr true 1 (A.map intC)] [coreA z, .one (.ref 0)] [.dead, .arr true 1 ((A ++ bnd z).map intC)] (.sv (.one (.ref 1))))  : CallOK Try.prog 71 [.arr true 1 (A.map
 intC)] [coreA c, .one (.ref 0)] [.dead, .arr true 1 ((A ++ bnd c).map intC)] (.sv (.one (.ref 1))) := by
  refine CallOK.ofRun wide (run_c_iBound_s c A) Try.call71 Try.func71 rfl rfl rfl ?_
  with_reducible repeat' (first | apply And.intro | (intro; skip) | apply Hc_iBound_sLa | apply Ec_iBound_sLa | apply Sc_iBound_sLa)
  all_goals (try simp only [size_list, List.length_map, Int.toNat_natCast, rng64, obsEq_iff, List.length_append, List.length_replicate, fillTo_len, decide_eq_true_eq, decide_eq_false_iff_not, ne_eq, lb_inj, li_inj, ls_inj, mk_toArray, tx_mkS, mkS_inj, size_mkS, mkTo_len, mkTo_zero, cOne_sum, seqM_len, List.length_set, List.set_set, List.take_zero, sumBy, Int.natCast_zero, Int.add_zero] at *)
  all_goals (try (first | with_reducible rfl | omega | assumption | exact getC (by first | omega | (simp only [fillTo_len, mkTo_len]; omega) | grind) rfl | exact outcomeGet (by first | omega | (simp only [fillTo_len, mkTo_len]; omega) | grind) | exact datumGet (by first | omega | (simp only [fillTo_len, mkTo_len]; omega) | grind) | exact coreGet (by first | omega | (simp only [fillTo_len, mkTo_len]; omega) | grind) | exact congrArg (Ob.arr true _) (fill_step (by first | omega | (simp only [fillTo_len, mkTo_len]; omega) | grind) (by first | rfl | exact outcomeC_eq _ | exact datumC_eq _ | exact coreC_eq _)) | exact congrArg (Ob.arr true _) (fill_init (by first | rfl | exact outcomeC_eq _ | exact datumC_eq _ | exact coreC_eq _)) | exact set_row (by simp only [List.length_map, List.length_set, mkTo_len]; omega) | exact (by first | exact rowLit (by assumption) (by assumption) | exact rowLen intC_len (by assumption) | exact rowLen strC_len (by assumption) | exact rowLen outcomeC_len (by assumption) | exact rowLen datumC_len (by assumption) | exact rowLen coreC_len (by assumption)) | exact mkTo_row (by first | omega | (simp only [fillTo_len, mkTo_len]; omega) | grind) (by first | rfl | exact outcomeC_eq _ | exact datumC_eq _ | exact coreC_eq _) | exact congrArg (Ob.arr true _) (mkTo_step (by first | omega | (simp only [fillTo_len, mkTo_len]; omega) | grind) (by grind [bnd_eq])) | grind [bnd_eq]))

theorem c_iBound (c : Core) : ∀ (A : List Int) (h : A.length + (bnd c).length ≤ 2147483647), CallOK Try.prog 71 [.arr true 1 (A.map intC)] [coreA c, .one (.ref 0)] [.dead, .arr true 1 ((A ++ bnd c).map intC)] (.sv (.one (.ref 1))) := Core.ind (P := fun c => ∀ (A : List Int) (h : A.length + (bnd c).length ≤ 2147483647), CallOK Try.prog 71 [.arr true 1 (A.map intC)] [coreA c, .one (.ref 0)] [.dead, .arr true 1 ((A ++ bnd c).map intC)] (.sv (.one (.ref 1)))) (fun c ih A h => c_iBound_s c A h ih) c

theorem run_c_sBoundVariables (c : Core) : aexec Try.prog (Option.getD (Func.body Try.f39) Code.skip) (entry [] [coreA c] 6) [Orc.call [Mode.rd, Mode.own true 1] [Ob.dead, Ob.arr
 true 1 (List.map intC ([] ++ bnd c))] (AV.sv (SV.one (AC.ref 1))), Orc.fin [3]] (finK Try.prog [ResultVar.tmp 2] [Ob.arr true 1 (List.map intC (bnd c))] (AV.sv (SV.one (AC.ref
 0)))) = (CallOK Try.prog (70 : FuncId) [Ob.arr true 1 (List.map intC [])] [coreA c, SV.one (AC.ref 0)] [Ob.dead, Ob.arr true 1 (List.map intC ([] ++ bnd c))] (AV.sv (SV.one
 (AC.ref 1))) ∧ ObsEq [Ob.arr true 1 (List.map intC ([] ++ bnd c))] [Ob.arr true 1 (List.map intC (bnd c))] ∧ AV.sv (SV.one (AC.ref 0)) = AV.sv (SV.one (AC.ref 0))) := by
 kernel_rfl
theorem c_sBoundVariables (c : Core) (h : (bnd c).length ≤ 2147483647)  : CallOK Try.prog 39 [] [coreA c] [.arr true 1 ((bnd c).map intC)] (.sv (.one (.ref 0))) := by
  refine CallOK.ofRun wide (run_c_sBoundVariables c) Try.call39 Try.func39 rfl rfl rfl ?_
  with_reducible repeat' (first | apply And.intro | (intro; skip) | apply c_sBound)
  all_goals (try simp only [size_list, List.length_map, Int.toNat_natCast, rng64, obsEq_iff, List.length_append, List.length_replicate, fillTo_len, decide_eq_true_eq, decide_eq_false_iff_not, ne_eq, lb_inj, li_inj, ls_inj, mk_toArray, tx_mkS, mkS_inj, size_mkS, mkTo_len, mkTo_zero, cOne_sum, seqM_len, List.length_set, List.set_set, List.take_zero, sumBy, Int.natCast_zero, Int.add_zero] at *)
  all_goals (try (first | with_reducible rfl | omega | assumption | exact getC (by first | omega | (simp only [fillTo_len, mkTo_len]; omega) | grind) rfl | exact outcomeGet (by first | omega | (simp only [fillTo_len, mkTo_len]; omega) | grind) | exact datumGet (by first | omega | (simp only [fillTo_len, mkTo_len]; omega) | grind) | exact coreGet (by first | omega | (simp only [fillTo_len, mkTo_len]; omega) | grind) | exact congrArg (Ob.arr true _) (fill_step (by first | omega | (simp only [fillTo_len, mkTo_len]; omega) | grind) (by first | rfl | exact outcomeC_eq _ | exact datumC_eq _ | exact coreC_eq _)) | exact congrArg (Ob.arr true _) (fill_init (by first | rfl | exact outcomeC_eq _ | exact datumC_eq _ | exact coreC_eq _)) | exact set_row (by simp only [List.length_map, List.length_set, mkTo_len]; omega) | exact (by first | exact rowLit (by assumption) (by assumption) | exact rowLen intC_len (by assumption) | exact rowLen strC_len (by assumption) | exact rowLen outcomeC_len (by assumption) | exact rowLen datumC_len (by assumption) | exact rowLen coreC_len (by assumption)) | exact mkTo_row (by first | omega | (simp only [fillTo_len, mkTo_len]; omega) | grind) (by first | rfl | exact outcomeC_eq _ | exact datumC_eq _ | exact coreC_eq _) | exact congrArg (Ob.arr true _) (mkTo_step (by first | omega | (simp only [fillTo_len, mkTo_len]; omega) | grind) (by grind)) | grind))

theorem run_c_iBoundVariables (c : Core) : aexec Try.prog (Option.getD (Func.body Try.f40) Code.skip) (entry [] [coreA c] 5) [Orc.call [Mode.rd, Mode.own true 1] [Ob.dead, Ob.arr
 true 1 (List.map intC ([] ++ bnd c))] (AV.sv (SV.one (AC.ref 1))), Orc.fin [2]] (finK Try.prog [ResultVar.tmp 2] [Ob.arr true 1 (List.map intC (bnd c))] (AV.sv (SV.one (AC.ref
 0)))) = (CallOK Try.prog (71 : FuncId) [Ob.arr true 1 (List.map intC [])] [coreA c, SV.one (AC.ref 0)] [Ob.dead, Ob.arr true 1 (List.map intC ([] ++ bnd c))] (AV.sv (SV.one
 (AC.ref 1))) ∧ ObsEq [Ob.arr true 1 (List.map intC ([] ++ bnd c))] [Ob.arr true 1 (List.map intC (bnd c))] ∧ AV.sv (SV.one (AC.ref 0)) = AV.sv (SV.one (AC.ref 0))) := by
 kernel_rfl
theorem c_iBoundVariables (c : Core) (h : (bnd c).length ≤ 2147483647)  : CallOK Try.prog 40 [] [coreA c] [.arr true 1 ((bnd c).map intC)] (.sv (.one (.ref 0))) := by
  refine CallOK.ofRun wide (run_c_iBoundVariables c) Try.call40 Try.func40 rfl rfl rfl ?_
  with_reducible repeat' (first | apply And.intro | (intro; skip) | apply c_iBound)
  all_goals (try simp only [size_list, List.length_map, Int.toNat_natCast, rng64, obsEq_iff, List.length_append, List.length_replicate, fillTo_len, decide_eq_true_eq, decide_eq_false_iff_not, ne_eq, lb_inj, li_inj, ls_inj, mk_toArray, tx_mkS, mkS_inj, size_mkS, mkTo_len, mkTo_zero, cOne_sum, seqM_len, List.length_set, List.set_set, List.take_zero, sumBy, Int.natCast_zero, Int.add_zero] at *)
  all_goals (try (first | with_reducible rfl | omega | assumption | exact getC (by first | omega | (simp only [fillTo_len, mkTo_len]; omega) | grind) rfl | exact outcomeGet (by first | omega | (simp only [fillTo_len, mkTo_len]; omega) | grind) | exact datumGet (by first | omega | (simp only [fillTo_len, mkTo_len]; omega) | grind) | exact coreGet (by first | omega | (simp only [fillTo_len, mkTo_len]; omega) | grind) | exact congrArg (Ob.arr true _) (fill_step (by first | omega | (simp only [fillTo_len, mkTo_len]; omega) | grind) (by first | rfl | exact outcomeC_eq _ | exact datumC_eq _ | exact coreC_eq _)) | exact congrArg (Ob.arr true _) (fill_init (by first | rfl | exact outcomeC_eq _ | exact datumC_eq _ | exact coreC_eq _)) | exact set_row (by simp only [List.length_map, List.length_set, mkTo_len]; omega) | exact (by first | exact rowLit (by assumption) (by assumption) | exact rowLen intC_len (by assumption) | exact rowLen strC_len (by assumption) | exact rowLen outcomeC_len (by assumption) | exact rowLen datumC_len (by assumption) | exact rowLen coreC_len (by assumption)) | exact mkTo_row (by first | omega | (simp only [fillTo_len, mkTo_len]; omega) | grind) (by first | rfl | exact outcomeC_eq _ | exact datumC_eq _ | exact coreC_eq _) | exact congrArg (Ob.arr true _) (mkTo_step (by first | omega | (simp only [fillTo_len, mkTo_len]; omega) | grind) (by grind)) | grind))


theorem bnd_le : ∀ c : Core, (bnd c).length ≤ wC c := by
  refine Core.ind fun c ih => ?_
  have h : ∀ L : List Core, (∀ y ∈ L, (bnd y).length ≤ wC y) → (L.flatMap bnd).length ≤ sumBy wC L := by
    intro L
    induction L with
    | nil => intro _; simp
    | cons x r ihr =>
      intro hL
      have h1 := hL x List.mem_cons_self
      have h2 := ihr fun y hy => hL y (List.mem_cons_of_mem _ hy)
      simp only [List.flatMap_cons, List.length_append, sumBy]; omega
  have := h c.kids ih
  rw [bnd_eq, wC_eq, List.length_append]; omega
theorem cD_le : ∀ d : Datum, cD d ≤ 3 + 3 * wD d := by
  refine Datum.ind fun d ih => ?_
  have h : ∀ L : List Datum, (∀ y ∈ L, cD y ≤ 3 + 3 * wD y) → sumBy cD L ≤ 3 * L.length + 3 * sumBy wD L := by
    intro L
    induction L with
    | nil => intro _; simp [sumBy]
    | cons x r ihr =>
      intro hL
      have h1 := hL x List.mem_cons_self
      have h2 := ihr fun y hy => hL y (List.mem_cons_of_mem _ hy)
      simp only [sumBy, List.length_cons]; omega
  have := h d.items ih
  rw [cD_eq, wD_eq]; omega
theorem cC_le : ∀ c : Core, cC c ≤ 5 + 5 * wC c := by
  refine Core.ind fun c ih => ?_
  have h : ∀ L : List Core, (∀ y ∈ L, cC y ≤ 5 + 5 * wC y) → sumBy cC L ≤ 5 * L.length + 5 * sumBy wC L := by
    intro L
    induction L with
    | nil => intro _; simp [sumBy]
    | cons x r ihr =>
      intro hL
      have h1 := hL x List.mem_cons_self
      have h2 := ihr fun y hy => hL y (List.mem_cons_of_mem _ hy)
      simp only [sumBy, List.length_cons]; omega
  have h1 := h c.kids ih
  have h2 := cD_le c.datum
  rw [cD_eq] at h2
  rw [cC_eq, wC_eq]; omega
theorem seqI_idem (L : List Int) (n : Int) : seqM mkI cOne (seqM mkI cOne L n) n = seqM mkI cOne L n := by
  induction L generalizing n with
  | nil => rfl
  | cons x r ih => simp only [seqM, mkI, cOne, List.cons.injEq, true_and]; exact ih _
end Go.Proofs.Ytjaahbkdpodbbaa
