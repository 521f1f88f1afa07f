/- The contracts of FreeVariables and BoxedVariables (both packages). No condition. -/
import Derived.Test.YtamcedjjlokfhaaData
import Derived.Test.YtamcedjjlokfhaaRows
namespace Go.Proofs.Ytamcedjjlokfhaa
open Go Go.Proofs.Ytamcedjjlokfhaa.Ab
set_option linter.unusedVariables false
set_option linter.unusedSimpArgs false
set_option maxHeartbeats 4000000

def addU (L : List Int) (n : Int) : List Int := if n ∈ L then L else L ++ [n]
def memI (S : List Int) (n : Int) : Int := if n ∈ S then 1 else 0
def cntI (b : List Int) (n : Int) : Int := (b.count n : Int)
theorem memI_nil : zI = memI [] := by funext m; simp [zI, memI]
theorem cntI_nil : zI = cntI [] := by funext m; simp [zI, cntI]
theorem memI_snoc {S : List Int} {n : Int} : upd1 (memI S) n 1 = memI (S ++ [n]) := by
  funext m; simp only [upd1, memI, List.mem_append, List.mem_singleton]; grind
theorem cntI_inc {b : List Int} {n : Int} : upd1 (cntI b) n (cntI b n + 1) = cntI (b ++ [n]) := by
  funext m; simp only [upd1, cntI, List.count_append, List.count_singleton]; grind
theorem cntI_dec {b p : List Int} {n : Int} : upd1 (cntI (b ++ n :: p)) n (cntI (b ++ n :: p) n - 1) = cntI (b ++ p) := by
  funext m; simp only [upd1, cntI, List.count_append, List.count_cons]; grind
theorem cntI_zero {b : List Int} {n : Int} : cntI b n = 0 ↔ n ∉ b := by
  simp only [cntI]; rw [← List.count_eq_zero]; omega
theorem cntI_le {b : List Int} {n : Int} : 0 ≤ cntI b n ∧ cntI b n ≤ b.length := by
  have := List.count_le_length (a := n) (l := b)
  simp only [cntI]; omega
theorem memI_zero {b : List Int} {n : Int} : memI b n = 0 ↔ n ∉ b := by
  simp only [memI]; grind
theorem addU_len (L : List Int) (n : Int) : (addU L n).length ≤ L.length + 1 := by
  unfold addU; split <;> simp
mutual
def fre : Core → List Int → List Int → List Int
  | ⟨k, n, p, _, l⟩, b, o => fres l (b ++ p) (if (k = 2 ∨ k = 4) ∧ n ∉ b then addU o n else o)
def fres : List Core → List Int → List Int → List Int
  | [], _, o => o
  | x :: r, b, o => fres r b (fre x b o)
end
theorem fres_eq : ∀ (l : List Core) (b o : List Int), fres l b o = l.foldl (fun o x => fre x b o) o
  | [], _, _ => by rw [fres]; rfl
  | x :: r, b, o => by rw [fres, fres_eq r]; rfl
def fre0 (c : Core) (b o : List Int) : List Int := if (c.kind = 2 ∨ c.kind = 4) ∧ c.number ∉ b then addU o c.number else o
theorem fre_eq (c : Core) (b o : List Int) : fre c b o = c.kids.foldl (fun o x => fre x (b ++ c.params) o) (fre0 c b o) := by cases c; simp only [fre, fres_eq, fre0]
/-- how often a variable is named at most -/
theorem fre_len : ∀ c b o, (fre c b o).length ≤ o.length + 1 + wC c := by
  refine Core.ind fun c ih b o => ?_
  rw [fre_eq, wC_eq]
  have h : ∀ (L : List Core), (∀ y ∈ L, ∀ b o, (fre y b o).length ≤ o.length + 1 + wC y) → ∀ o, (L.foldl (fun o x => fre x (b ++ c.params) o) o).length ≤ o.length + L.length + sumBy wC L := by
    intro L
    induction L with
    | nil => intro _ o; simp [sumBy]
    | cons x r ihr =>
      intro hL o
      have h1 := hL x List.mem_cons_self (b ++ c.params) o
      have h2 := ihr (fun y hy => hL y (List.mem_cons_of_mem _ hy)) (fre x (b ++ c.params) o)
      simp only [List.foldl_cons, sumBy, List.length_cons]; omega
  have h1 := h c.kids ih (fre0 c b o)
  have h2 : (fre0 c b o).length ≤ o.length + 1 := by
    unfold fre0; split
    · exact addU_len _ _
    · omega
  omega

theorem fre0_len (c : Core) (b o : List Int) : (fre0 c b o).length ≤ o.length + 1 := by
  unfold fre0; split
  · exact addU_len _ _
  · omega

abbrev P_c_addNum (S : List Int) (n : Int) : Prop := CallOK Try.prog 217 [.box [.ref 1, .mref 2], .arr true 1 (S.map intC), .map (decide (S = [])) kI (mI (memI S))] [.one (.ptr 0 0), li n] [.box [.ref 3, .mref 4], .dead, .dead, .arr true 1 ((addU S n).map intC), .map (decide (addU S n = [])) kI (mI (memI (addU S n)))] (.tup [])
theorem run_c_addNum (S : List Int) (n : Int) : aexec Try.prog (Option.getD (Func.body Try.f217) Code.skip) (entry [Ob.box [AC.ref 1, AC.mref 2], Ob.arr true 1 (List.map intC S),
 Ob.map (decide (S = [])) kI (mI (memI S))] [SV.one (AC.ptr 0 0), li n] 35) [Orc.br [Orc.mkmap kI, Orc.cells [cI (zI n)], Orc.bool true, Orc.upd (mI (upd1 zI n 1)), Orc.ghost
 (Ghost.move 2), Orc.fin [5, 3]] [Orc.cells [cI (memI S n)], Orc.br [Orc.upd (mI (upd1 (memI S) n 1)), Orc.ghost (Ghost.move 2), Orc.fin [4, 5]] [Orc.ghost (Ghost.move 1),
 Orc.ghost (Ghost.move 2), Orc.fin [3, 4]]]] (finK Try.prog [] [Ob.box [AC.ref 3, AC.mref 4], Ob.dead, Ob.dead, Ob.arr true 1 (List.map intC (addU S n)), Ob.map (decide (addU S n =
 [])) kI (mI (memI (addU S n)))] (AV.tup [])) = ((decide (S = []) = true → LookAt (Value.int IntKind.i64 0) (mI zI) (Value.int IntKind.i64 n) (cI 0) ∧ true = true ∧ false = false ∧
 UpdF (MK.d kI) (mI zI) (mI (upd1 zI n 1)) (Value.int IntKind.i64 n) (some (cI 1)) ∧ (List.length (List.map intC S) + 1) * 8 ≤ 140737488355328 ∧ ObsEq [Ob.box [AC.ref 3, AC.mref
 4], Ob.dead, Ob.dead, Ob.arr true 1 (List.map intC S ++ [[cI n]]), Ob.map false kI (mI (upd1 zI n 1))] [Ob.box [AC.ref 3, AC.mref 4], Ob.dead, Ob.dead, Ob.arr true 1 (List.map
 intC (addU S n)), Ob.map (decide (addU S n = [])) kI (mI (memI (addU S n)))] ∧ AV.tup [] = AV.tup []) ∧ (decide (S = []) = false → LookAt (Value.int IntKind.i64 0) (mI (memI S))
 (Value.int IntKind.i64 n) (cI (memI S n)) ∧ (decide (memI S n = 0) = true → decide (S = []) = false ∧ UpdF (MK.d kI) (mI (memI S)) (mI (upd1 (memI S) n 1)) (Value.int IntKind.i64
 n) (some (cI 1)) ∧ (List.length (List.map intC S) + 1) * 8 ≤ 140737488355328 ∧ ObsEq [Ob.box [AC.ref 3, AC.mref 4], Ob.dead, Ob.dead, Ob.arr true 1 (List.map intC S ++ [[cI n]]),
 Ob.map (decide (S = [])) kI (mI (upd1 (memI S) n 1))] [Ob.box [AC.ref 3, AC.mref 4], Ob.dead, Ob.dead, Ob.arr true 1 (List.map intC (addU S n)), Ob.map (decide (addU S n = [])) kI
 (mI (memI (addU S n)))] ∧ AV.tup [] = AV.tup []) ∧ (decide (memI S n = 0) = false → ObsEq [Ob.box [AC.ref 3, AC.mref 4], Ob.dead, Ob.dead, Ob.arr true 1 (List.map intC S), Ob.map
 (decide (S = [])) kI (mI (memI S))] [Ob.box [AC.ref 3, AC.mref 4], Ob.dead, Ob.dead, Ob.arr true 1 (List.map intC (addU S n)), Ob.map (decide (addU S n = [])) kI (mI (memI (addU S
 n)))] ∧ AV.tup [] = AV.tup []))) := by kernel_rfl
theorem c_addNum (S : List Int) (n : Int) (h : S.length < 2147483647)  : P_c_addNum S n := by
  refine CallOK.ofRun wide (run_c_addNum S n) Try.call217 Try.func217 rfl rfl rfl ?_
  with_reducible repeat' (first | apply And.intro | exact flatI | exact flatS | exact rowLens | (intro; skip) | apply obsN | apply obsC | apply obA | apply obM | apply obB | apply svA | apply tupA | apply lcA | apply lcS | apply svC | apply liC | apply lbC | apply lsC | apply vIc | apply vBc | apply vSc | apply vLc | apply mapC | apply mIc | apply mOc | apply mSc | apply mLc)
  all_goals (try simp only [std] at *)
  all_goals (try (first | with_reducible rfl | omega | assumption | (refine (decide_eq_true ?_).symm; assumption) | (refine (decide_eq_false ?_).symm; assumption) | (refine rowGet ?_; (first | omega | (simp only [std]; omega) | grind)) | (refine getC ?_ rfl; (first | omega | (simp only [std]; omega) | grind)) | exact look_mI | exact look_mO | exact look_mO1 | exact look_mS | exact look_mL | exact upd_mI | exact upd_mO | exact del_mO | exact upd_mS | exact take_mL | (refine upd_mL ?_; grind) | (refine fill_step ?_ ?_; (first | omega | (simp only [std]; omega) | grind); (first | rfl | exact (Row.eq _).trans rfl)) | (refine fill_init ?_; (first | rfl | exact (Row.eq _).trans rfl)) | grind [addU, memI_zero, memI_snoc, memI_nil, List.append_eq_nil_iff, snocI, snocS, rowSnoc]))

abbrev P_c_freeIn (c : Core) (b : List Int) (S : List Int) : Prop := CallOK Try.prog 113 [.map false kI (mI (cntI b)), .box [.ref 2, .mref 3], .arr true 1 (S.map intC), .map (decide (S = [])) kI (mI (memI S))] [coreA c, .one (.mref 0), .one (.ptr 1 0)] [.map false kI (mI (cntI b)), .box [.ref 4, .mref 5], .dead, .dead, .arr true 1 ((fre c b S).map intC), .map (decide (fre c b S = [])) kI (mI (memI (fre c b S)))] (.tup [])
def Tc_freeIn_sLa (c : Core) (b : List Int) (S : List Int) (x0 : SV) (x1 : Ob) (x2 : Ob) (x3 : Ob) : St := St.mk (regsOf 67 [(1, AV.sv (SV.one (AC.mref 0))), (2, AV.sv (SV.one
 (AC.ptr 1 0))), (3, AV.sv (SV.one (AC.ptr 4 0))), (32, AV.sv (ll (List.map intC (Core.params c)))), (33, AV.sv (li (↑(List.length (List.map intC (Core.params c))) : Int))), (34,
 AV.sv x0)]) [x1, Ob.box [AC.ref 5, AC.mref 6], Ob.dead, Ob.dead, Ob.box (vals (coreF c)), x2, x3] 4 
def Lc_freeIn_sLa (c : Core) (b : List Int) (S : List Int) (k : Nat) : St := Tc_freeIn_sLa c b S (li (↑k : Int)) (Ob.map false kI (mI (cntI (b ++ List.take k (Core.params c)))))
 (Ob.arr true 1 (List.map intC (fre0 c b S))) (Ob.map (decide (fre0 c b S = [])) kI (mI (memI (fre0 c b S)))) 
def Ic_freeIn_sLa (c : Core) (b : List Int) (S : List Int) : Nat → St → Prop := Head (Lc_freeIn_sLa c b S) (fun k => k ≤ List.length (Core.params c) ∧ List.length (Core.params c) ≤
 9223372036854775807) fun k => List.length (Core.params c) - k 
def W0c_freeIn_sLa (c : Core) (b : List Int) (S : List Int) (x0 : Ob) (x1 : Ob) (x2 : Ob) : St := St.mk (regsOf 67 [(1, AV.sv (SV.one (AC.mref 0))), (2, AV.sv (SV.one (AC.ptr 1
 0))), (3, AV.sv (SV.one (AC.ptr 4 0)))]) [x0, Ob.box [AC.ref 5, AC.mref 6], Ob.dead, Ob.dead, Ob.box (vals (coreF c)), x1, x2] 4 
def Yc_freeIn_sLa (c : Core) (b : List Int) (S : List Int) : List (Prop × AEx × St) := [(True, AEx.exit 0, W0c_freeIn_sLa c b S (Ob.map false kI (mI (cntI (b ++ Core.params c))))
 (Ob.arr true 1 (List.map intC (fre0 c b S))) (Ob.map (decide (fre0 c b S = [])) kI (mI (memI (fre0 c b S)))))]
theorem Hc_freeIn_sLa {c : Core} {b : List Int} {S : List Int} {k : Nat} {m : Nat} (h : (fun k => k ≤ List.length (Core.params c) ∧ List.length (Core.params c) ≤
 9223372036854775807) k) (hm : (fun k => List.length (Core.params c) - k) k = m) : Ic_freeIn_sLa c b S m (Lc_freeIn_sLa c b S k) := hm ▸ Head.mk h
theorem Ec_freeIn_sLa {c : Core} {b : List Int} {S : List Int} {k : Nat} {x0 : SV} {x1 : Ob} {x2 : Ob} {x3 : Ob} (h0 : x0 = (li (↑k : Int))) (h1 : x1 = (Ob.map false kI (mI (cntI
 (b ++ List.take k (Core.params c)))))) (h2 : x2 = (Ob.arr true 1 (List.map intC (fre0 c b S)))) (h3 : x3 = (Ob.map (decide (fre0 c b S = [])) kI (mI (memI (fre0 c b S))))) :
 Tc_freeIn_sLa c b S x0 x1 x2 x3 = Lc_freeIn_sLa c b S k := by
  rw [h0, h1, h2, h3]
  rfl
theorem EW0c_freeIn_sLa {c : Core} {b : List Int} {S : List Int} {x0 y0 : Ob} {x1 y1 : Ob} {x2 y2 : Ob} (h0 : x0 = y0) (h1 : x1 = y1) (h2 : x2 = y2) : W0c_freeIn_sLa c b S x0 x1 x2
 = W0c_freeIn_sLa c b S y0 y1 y2 := by rw [h0, h1, h2]
theorem run_c_freeIn_sLa (c : Core) (b : List Int) (S : List Int) (k : Nat) : aexec Try.prog (loopAt Try.f113 0) (Lc_freeIn_sLa c b S k) [Orc.br [Orc.cells (intC (List.getD
 (Core.params c) k default)), Orc.cells [cI (cntI (b ++ List.take k (Core.params c)) (List.getD (Core.params c) k 0))], Orc.upd (mI (upd1 (cntI (b ++ List.take k (Core.params c)))
 (List.getD (Core.params c) k 0) (cntI (b ++ List.take k (Core.params c)) (List.getD (Core.params c) k 0) + 1))), Orc.ghost (Ghost.sel [0, 1, 2, 3, 4, 5, 6] [1, 2, 3, 32, 33, 34]),
 Orc.goto (List.length (Core.params c) - (k + 1)) (Lc_freeIn_sLa c b S (k + 1))] [Orc.ghost (Ghost.sel [0, 1, 2, 3, 4, 5, 6] [1, 2, 3]), Orc.out 0]] (loopK (Ic_freeIn_sLa c b S)
 (Yc_freeIn_sLa c b S) (List.length (Core.params c) - k)) = ((decide ((↑k : Int) < (↑(List.length (List.map intC (Core.params c))) : Int)) = true → (0 ≤ (↑k : Int) ∧ (List.map intC
 (Core.params c))[Int.toNat (↑k : Int)]? = some [cI (List.getD (Core.params c) k 0)]) ∧ LookAt (Value.int IntKind.i64 0) (mI (cntI (b ++ List.take k (Core.params c)))) (Value.int
 IntKind.i64 (List.getD (Core.params c) k 0)) (cI (cntI (b ++ List.take k (Core.params c)) (List.getD (Core.params c) k 0))) ∧ rng IntKind.i64 (cntI (b ++ List.take k (Core.params
 c)) (List.getD (Core.params c) k 0) + 1) ∧ false = false ∧ UpdF (MK.d kI) (mI (cntI (b ++ List.take k (Core.params c)))) (mI (upd1 (cntI (b ++ List.take k (Core.params c)))
 (List.getD (Core.params c) k 0) (cntI (b ++ List.take k (Core.params c)) (List.getD (Core.params c) k 0) + 1))) (Value.int IntKind.i64 (List.getD (Core.params c) k 0)) (some (cI
 (cntI (b ++ List.take k (Core.params c)) (List.getD (Core.params c) k 0) + 1))) ∧ rng IntKind.i64 ((↑k : Int) + 1) ∧ List.length (Core.params c) - (k + 1) < List.length
 (Core.params c) - k ∧ Tc_freeIn_sLa c b S (li ((↑k : Int) + 1)) (Ob.map false kI (mI (upd1 (cntI (b ++ List.take k (Core.params c))) (List.getD (Core.params c) k 0) (cntI (b ++
 List.take k (Core.params c)) (List.getD (Core.params c) k 0) + 1)))) (Ob.arr true 1 (List.map intC (fre0 c b S))) (Ob.map (decide (fre0 c b S = [])) kI (mI (memI (fre0 c b S)))) =
 Lc_freeIn_sLa c b S (k + 1) ∧ Ic_freeIn_sLa c b S (List.length (Core.params c) - (k + 1)) (Lc_freeIn_sLa c b S (k + 1))) ∧ (decide ((↑k : Int) < (↑(List.length (List.map intC
 (Core.params c))) : Int)) = false → True ∧ W0c_freeIn_sLa c b S (Ob.map false kI (mI (cntI (b ++ List.take k (Core.params c))))) (Ob.arr true 1 (List.map intC (fre0 c b S)))
 (Ob.map (decide (fre0 c b S = [])) kI (mI (memI (fre0 c b S)))) = W0c_freeIn_sLa c b S (Ob.map false kI (mI (cntI (b ++ Core.params c)))) (Ob.arr true 1 (List.map intC (fre0 c b
 S))) (Ob.map (decide (fre0 c b S = [])) kI (mI (memI (fre0 c b S)))))) := by kernel_rfl
def Tc_freeIn_sLb (c : Core) (b : List Int) (S : List Int) (x0 : SV) (x1 : Ob) (x2 : Ob) : St := St.mk (regsOf 67 [(1, AV.sv (SV.one (AC.mref 0))), (2, AV.sv (SV.one (AC.ptr 1
 0))), (3, AV.sv (SV.one (AC.ptr 4 0))), (44, AV.sv (ll (List.map coreC (Core.kids c)))), (45, AV.sv (li (↑(List.length (List.map coreC (Core.kids c))) : Int))), (46, AV.sv x0)])
 [Ob.map false kI (mI (cntI (b ++ Core.params c))), Ob.box [AC.ref 5, AC.mref 6], Ob.dead, Ob.dead, Ob.box (vals (coreF c)), x1, x2] 4 
def Lc_freeIn_sLb (c : Core) (b : List Int) (S : List Int) (k : Nat) : St := Tc_freeIn_sLb c b S (li (↑k : Int)) (Ob.arr true 1 (List.map intC (List.foldl (fun o x => fre x (b ++
 Core.params c) o) (fre0 c b S) (List.take k (Core.kids c))))) (Ob.map (decide (List.foldl (fun o x => fre x (b ++ Core.params c) o) (fre0 c b S) (List.take k (Core.kids c)) = []))
 kI (mI (memI (List.foldl (fun o x => fre x (b ++ Core.params c) o) (fre0 c b S) (List.take k (Core.kids c)))))) 
def Ic_freeIn_sLb (c : Core) (b : List Int) (S : List Int) : Nat → St → Prop := Head (Lc_freeIn_sLb c b S) (fun k => k ≤ List.length (Core.kids c) ∧ List.length (Core.kids c) ≤
 9223372036854775807) fun k => List.length (Core.kids c) - k 
def W0c_freeIn_sLb (c : Core) (b : List Int) (S : List Int) (x0 : Ob) (x1 : Ob) : St := St.mk (regsOf 67 [(1, AV.sv (SV.one (AC.mref 0))), (3, AV.sv (SV.one (AC.ptr 4 0)))])
 [Ob.map false kI (mI (cntI (b ++ Core.params c))), Ob.box [AC.ref 5, AC.mref 6], Ob.dead, Ob.dead, Ob.box (vals (coreF c)), x0, x1] 4 
def Yc_freeIn_sLb (c : Core) (b : List Int) (S : List Int) : List (Prop × AEx × St) := [(True, AEx.exit 2, W0c_freeIn_sLb c b S (Ob.arr true 1 (List.map intC (fre c b S))) (Ob.map
 (decide (fre c b S = [])) kI (mI (memI (fre c b S)))))]
theorem Hc_freeIn_sLb {c : Core} {b : List Int} {S : List Int} {k : Nat} {m : Nat} (h : (fun k => k ≤ List.length (Core.kids c) ∧ List.length (Core.kids c) ≤ 9223372036854775807)
 k) (hm : (fun k => List.length (Core.kids c) - k) k = m) : Ic_freeIn_sLb c b S m (Lc_freeIn_sLb c b S k) := hm ▸ Head.mk h
theorem Ec_freeIn_sLb {c : Core} {b : List Int} {S : List Int} {k : Nat} {x0 : SV} {x1 : Ob} {x2 : Ob} (h0 : x0 = (li (↑k : Int))) (h1 : x1 = (Ob.arr true 1 (List.map intC
 (List.foldl (fun o x => fre x (b ++ Core.params c) o) (fre0 c b S) (List.take k (Core.kids c)))))) (h2 : x2 = (Ob.map (decide (List.foldl (fun o x => fre x (b ++ Core.params c) o)
 (fre0 c b S) (List.take k (Core.kids c)) = [])) kI (mI (memI (List.foldl (fun o x => fre x (b ++ Core.params c) o) (fre0 c b S) (List.take k (Core.kids c))))))) : Tc_freeIn_sLb c
 b S x0 x1 x2 = Lc_freeIn_sLb c b S k := by
  rw [h0, h1, h2]
  rfl
theorem EW0c_freeIn_sLb {c : Core} {b : List Int} {S : List Int} {x0 y0 : Ob} {x1 y1 : Ob} (h0 : x0 = y0) (h1 : x1 = y1) : W0c_freeIn_sLb c b S x0 x1 = W0c_freeIn_sLb c b S y0 y1
 := by rw [h0, h1]
theorem run_c_freeIn_sLb (c : Core) (b : List Int) (S : List Int) (k : Nat) : aexec Try.prog (loopAt Try.f113 1) (Lc_freeIn_sLb c b S k) [Orc.br [Orc.cells (coreF (List.getD
 (Core.kids c) k default)), Orc.call [Mode.rd, Mode.map, Mode.ptr] [Ob.map false kI (mI (cntI (b ++ Core.params c))), Ob.box [AC.ref 4, AC.mref 5], Ob.dead, Ob.dead, Ob.arr true 1
 (List.map intC (fre (List.getD (Core.kids c) k default) (b ++ Core.params c) (List.foldl (fun o x => fre x (b ++ Core.params c) o) (fre0 c b S) (List.take k (Core.kids c))))),
 Ob.map (decide (fre (List.getD (Core.kids c) k default) (b ++ Core.params c) (List.foldl (fun o x => fre x (b ++ Core.params c) o) (fre0 c b S) (List.take k (Core.kids c))) = []))
 kI (mI (memI (fre (List.getD (Core.kids c) k default) (b ++ Core.params c) (List.foldl (fun o x => fre x (b ++ Core.params c) o) (fre0 c b S) (List.take k (Core.kids c))))))]
 (AV.tup []), Orc.ghost (Ghost.sel [0, 1, 2, 3, 4, 12, 13] [1, 2, 3, 44, 45, 46]), Orc.goto (List.length (Core.kids c) - (k + 1)) (Lc_freeIn_sLb c b S (k + 1))] [Orc.ghost
 (Ghost.sel [0, 1, 2, 3, 4, 5, 6] [1, 3]), Orc.out 0]] (loopK (Ic_freeIn_sLb c b S) (Yc_freeIn_sLb c b S) (List.length (Core.kids c) - k)) = ((decide ((↑k : Int) < (↑(List.length
 (List.map coreC (Core.kids c))) : Int)) = true → (0 ≤ (↑k : Int) ∧ (List.map coreC (Core.kids c))[Int.toNat (↑k : Int)]? = some (coreF (List.getD (Core.kids c) k default))) ∧
 P_c_freeIn (List.getD (Core.kids c) k default) (b ++ Core.params c) (List.foldl (fun o x => fre x (b ++ Core.params c) o) (fre0 c b S) (List.take k (Core.kids c))) ∧ rng
 IntKind.i64 ((↑k : Int) + 1) ∧ List.length (Core.kids c) - (k + 1) < List.length (Core.kids c) - k ∧ Tc_freeIn_sLb c b S (li ((↑k : Int) + 1)) (Ob.arr true 1 (List.map intC (fre
 (List.getD (Core.kids c) k default) (b ++ Core.params c) (List.foldl (fun o x => fre x (b ++ Core.params c) o) (fre0 c b S) (List.take k (Core.kids c)))))) (Ob.map (decide (fre
 (List.getD (Core.kids c) k default) (b ++ Core.params c) (List.foldl (fun o x => fre x (b ++ Core.params c) o) (fre0 c b S) (List.take k (Core.kids c))) = [])) kI (mI (memI (fre
 (List.getD (Core.kids c) k default) (b ++ Core.params c) (List.foldl (fun o x => fre x (b ++ Core.params c) o) (fre0 c b S) (List.take k (Core.kids c))))))) = Lc_freeIn_sLb c b S
 (k + 1) ∧ Ic_freeIn_sLb c b S (List.length (Core.kids c) - (k + 1)) (Lc_freeIn_sLb c b S (k + 1))) ∧ (decide ((↑k : Int) < (↑(List.length (List.map coreC (Core.kids c))) : Int)) =
 false → True ∧ W0c_freeIn_sLb c b S (Ob.arr true 1 (List.map intC (List.foldl (fun o x => fre x (b ++ Core.params c) o) (fre0 c b S) (List.take k (Core.kids c))))) (Ob.map (decide
 (List.foldl (fun o x => fre x (b ++ Core.params c) o) (fre0 c b S) (List.take k (Core.kids c)) = [])) kI (mI (memI (List.foldl (fun o x => fre x (b ++ Core.params c) o) (fre0 c b
 S) (List.take k (Core.kids c)))))) = W0c_freeIn_sLb c b S (Ob.arr true 1 (List.map intC (fre c b S))) (Ob.map (decide (fre c b S = [])) kI (mI (memI (fre c b S)))))) := by
 kernel_rfl
def Tc_freeIn_sLc (c : Core) (b : List Int) (S : List Int) (x0 : SV) (x1 : Ob) : St := St.mk (regsOf 67 [(1, AV.sv (SV.one (AC.mref 0))), (56, AV.sv (ll (List.map intC (Core.params
 c)))), (57, AV.sv (li (↑(List.length (List.map intC (Core.params c))) : Int))), (58, AV.sv x0)]) [x1, Ob.box [AC.ref 4, AC.mref 5], Ob.dead, Ob.dead, Ob.arr true 1 (List.map intC
 (fre c b S)), Ob.map (decide (fre c b S = [])) kI (mI (memI (fre c b S)))] 4 
def Lc_freeIn_sLc (c : Core) (b : List Int) (S : List Int) (k : Nat) : St := Tc_freeIn_sLc c b S (li (↑k : Int)) (Ob.map false kI (mI (cntI (b ++ List.drop k (Core.params c))))) 
def Ic_freeIn_sLc (c : Core) (b : List Int) (S : List Int) : Nat → St → Prop := Head (Lc_freeIn_sLc c b S) (fun k => k ≤ List.length (Core.params c) ∧ List.length (Core.params c) ≤
 9223372036854775807) fun k => List.length (Core.params c) - k 
def W0c_freeIn_sLc (c : Core) (b : List Int) (S : List Int) (x0 : Ob) : St := St.mk (regsOf 67 []) [x0, Ob.box [AC.ref 4, AC.mref 5], Ob.dead, Ob.dead, Ob.arr true 1 (List.map intC
 (fre c b S)), Ob.map (decide (fre c b S = [])) kI (mI (memI (fre c b S)))] 4 
def Yc_freeIn_sLc (c : Core) (b : List Int) (S : List Int) : List (Prop × AEx × St) := [(True, AEx.exit 4, W0c_freeIn_sLc c b S (Ob.map false kI (mI (cntI b))))]
theorem Hc_freeIn_sLc {c : Core} {b : List Int} {S : List Int} {k : Nat} {m : Nat} (h : (fun k => k ≤ List.length (Core.params c) ∧ List.length (Core.params c) ≤
 9223372036854775807) k) (hm : (fun k => List.length (Core.params c) - k) k = m) : Ic_freeIn_sLc c b S m (Lc_freeIn_sLc c b S k) := hm ▸ Head.mk h
theorem Ec_freeIn_sLc {c : Core} {b : List Int} {S : List Int} {k : Nat} {x0 : SV} {x1 : Ob} (h0 : x0 = (li (↑k : Int))) (h1 : x1 = (Ob.map false kI (mI (cntI (b ++ List.drop k
 (Core.params c)))))) : Tc_freeIn_sLc c b S x0 x1 = Lc_freeIn_sLc c b S k := by
  rw [h0, h1]
  rfl
theorem EW0c_freeIn_sLc {c : Core} {b : List Int} {S : List Int} {x0 y0 : Ob} (h0 : x0 = y0) : W0c_freeIn_sLc c b S x0 = W0c_freeIn_sLc c b S y0 := by rw [h0]
theorem run_c_freeIn_sLc (c : Core) (b : List Int) (S : List Int) (k : Nat) : aexec Try.prog (loopAt Try.f113 2) (Lc_freeIn_sLc c b S k) [Orc.br [Orc.cells (intC (List.getD
 (Core.params c) k default)), Orc.cells [cI (cntI (b ++ List.drop k (Core.params c)) (List.getD (Core.params c) k 0))], Orc.upd (mI (upd1 (cntI (b ++ List.drop k (Core.params c)))
 (List.getD (Core.params c) k 0) (cntI (b ++ List.drop k (Core.params c)) (List.getD (Core.params c) k 0) - 1))), Orc.ghost (Ghost.sel [0, 1, 2, 3, 4, 5] [1, 56, 57, 58]), Orc.goto
 (List.length (Core.params c) - (k + 1)) (Lc_freeIn_sLc c b S (k + 1))] [Orc.ghost (Ghost.sel [0, 1, 2, 3, 4, 5] []), Orc.out 0]] (loopK (Ic_freeIn_sLc c b S) (Yc_freeIn_sLc c b S)
 (List.length (Core.params c) - k)) = ((decide ((↑k : Int) < (↑(List.length (List.map intC (Core.params c))) : Int)) = true → (0 ≤ (↑k : Int) ∧ (List.map intC (Core.params
 c))[Int.toNat (↑k : Int)]? = some [cI (List.getD (Core.params c) k 0)]) ∧ LookAt (Value.int IntKind.i64 0) (mI (cntI (b ++ List.drop k (Core.params c)))) (Value.int IntKind.i64
 (List.getD (Core.params c) k 0)) (cI (cntI (b ++ List.drop k (Core.params c)) (List.getD (Core.params c) k 0))) ∧ rng IntKind.i64 (cntI (b ++ List.drop k (Core.params c))
 (List.getD (Core.params c) k 0) - 1) ∧ false = false ∧ UpdF (MK.d kI) (mI (cntI (b ++ List.drop k (Core.params c)))) (mI (upd1 (cntI (b ++ List.drop k (Core.params c))) (List.getD
 (Core.params c) k 0) (cntI (b ++ List.drop k (Core.params c)) (List.getD (Core.params c) k 0) - 1))) (Value.int IntKind.i64 (List.getD (Core.params c) k 0)) (some (cI (cntI (b ++
 List.drop k (Core.params c)) (List.getD (Core.params c) k 0) - 1))) ∧ rng IntKind.i64 ((↑k : Int) + 1) ∧ List.length (Core.params c) - (k + 1) < List.length (Core.params c) - k ∧
 Tc_freeIn_sLc c b S (li ((↑k : Int) + 1)) (Ob.map false kI (mI (upd1 (cntI (b ++ List.drop k (Core.params c))) (List.getD (Core.params c) k 0) (cntI (b ++ List.drop k (Core.params
 c)) (List.getD (Core.params c) k 0) - 1)))) = Lc_freeIn_sLc c b S (k + 1) ∧ Ic_freeIn_sLc c b S (List.length (Core.params c) - (k + 1)) (Lc_freeIn_sLc c b S (k + 1))) ∧ (decide
 ((↑k : Int) < (↑(List.length (List.map intC (Core.params c))) : Int)) = false → True ∧ W0c_freeIn_sLc c b S (Ob.map false kI (mI (cntI (b ++ List.drop k (Core.params c))))) =
 W0c_freeIn_sLc c b S (Ob.map false kI (mI (cntI b))))) := by kernel_rfl
theorem Sc_freeIn_sLc (c : Core) (b : List Int) (S : List Int) (h : List.length b + List.length S + wC c + 1 ≤ 2147483647) (ih : ∀ (z : Core), z ∈ Core.kids c → ∀ (b S : List Int),
 List.length b + List.length S + wC z + 1 ≤ 2147483647 → P_c_freeIn z b S)  : LoopSem Try.prog (loopAt Try.f113 2) (Ic_freeIn_sLc c b S) (Yc_freeIn_sLc c b S) := by
  refine LoopSem.ofHead wide fun k h => ⟨_, _, run_c_freeIn_sLc c b S k, ?_⟩
  have g := fun L n => (cntI_le (b := L) (n := n)).2
  have g' := fun L n => (cntI_le (b := L) (n := n)).1
  have g4 := wC_eq c
  with_reducible repeat' (first | apply And.intro | exact flatI | exact flatS | exact rowLens | exact ih | (intro; skip) | apply obsN | apply obsC | apply obA | apply obM | apply obB | apply svA | apply tupA | apply lcA | apply lcS | apply svC | apply liC | apply lbC | apply lsC | apply vIc | apply vBc | apply vSc | apply vLc | apply mapC | apply mIc | apply mOc | apply mSc | apply mLc | apply Hc_freeIn_sLa | apply Ec_freeIn_sLa | apply Hc_freeIn_sLb | apply Ec_freeIn_sLb | apply Hc_freeIn_sLc | apply Ec_freeIn_sLc | apply EW0c_freeIn_sLa | apply EW0c_freeIn_sLb | apply EW0c_freeIn_sLc | apply c_addNum)
  all_goals (try simp only [std] at *)
  all_goals (try (first | with_reducible rfl | omega | assumption | (refine (decide_eq_true ?_).symm; assumption) | (refine (decide_eq_false ?_).symm; assumption) | (refine rowGet ?_; (first | omega | (simp only [std]; omega) | grind)) | (refine getC ?_ rfl; (first | omega | (simp only [std]; omega) | grind)) | exact look_mI | exact look_mO | exact look_mO1 | exact look_mS | exact look_mL | exact upd_mI | exact upd_mO | exact del_mO | exact upd_mS | exact take_mL | (refine upd_mL ?_; grind) | (refine fill_step ?_ ?_; (first | omega | (simp only [std]; omega) | grind); (first | rfl | exact (Row.eq _).trans rfl)) | (refine fill_init ?_; (first | rfl | exact (Row.eq _).trans rfl)) | grind [cntI_dec, drop_get, snocI, snocS, rowSnoc]))
theorem Sc_freeIn_sLb (c : Core) (b : List Int) (S : List Int) (h : List.length b + List.length S + wC c + 1 ≤ 2147483647) (ih : ∀ (z : Core), z ∈ Core.kids c → ∀ (b S : List Int),
 List.length b + List.length S + wC z + 1 ≤ 2147483647 → P_c_freeIn z b S)  : LoopSem Try.prog (loopAt Try.f113 1) (Ic_freeIn_sLb c b S) (Yc_freeIn_sLb c b S) := by
  refine LoopSem.ofHead wide fun k h => ⟨_, _, run_c_freeIn_sLb c b S k, ?_⟩
  have g1 := foldl_len (fun o x => fre x (b ++ c.params) o) wC (c.kids.take k) (fun y _ o => fre_len y _ o) (fre0 c b S)
  have g2 := fre0_len c b S
  have g3 := sumBy_takeLe wC c.kids (k + 1)
  have g4 := wC_eq c
  with_reducible repeat' (first | apply And.intro | exact flatI | exact flatS | exact rowLens | exact ih | (intro; skip) | apply obsN | apply obsC | apply obA | apply obM | apply obB | apply svA | apply tupA | apply lcA | apply lcS | apply svC | apply liC | apply lbC | apply lsC | apply vIc | apply vBc | apply vSc | apply vLc | apply mapC | apply mIc | apply mOc | apply mSc | apply mLc | apply Hc_freeIn_sLa | apply Ec_freeIn_sLa | apply Hc_freeIn_sLb | apply Ec_freeIn_sLb | apply Hc_freeIn_sLc | apply Ec_freeIn_sLc | apply Sc_freeIn_sLc | apply EW0c_freeIn_sLa | apply EW0c_freeIn_sLb | apply EW0c_freeIn_sLc | apply c_addNum | apply ih)
  all_goals (try simp only [std] at *)
  all_goals (try (first | with_reducible rfl | omega | assumption | (refine (decide_eq_true ?_).symm; assumption) | (refine (decide_eq_false ?_).symm; assumption) | (refine rowGet ?_; (first | omega | (simp only [std]; omega) | grind)) | (refine getC ?_ rfl; (first | omega | (simp only [std]; omega) | grind)) | exact look_mI | exact look_mO | exact look_mO1 | exact look_mS | exact look_mL | exact upd_mI | exact upd_mO | exact del_mO | exact upd_mS | exact take_mL | (refine upd_mL ?_; grind) | (refine fill_step ?_ ?_; (first | omega | (simp only [std]; omega) | grind); (first | rfl | exact (Row.eq _).trans rfl)) | (refine fill_init ?_; (first | rfl | exact (Row.eq _).trans rfl)) | grind [fre_eq, foldl_step, getD_mem', sumBy_step, snocI, snocS, rowSnoc]))
theorem Sc_freeIn_sLa (c : Core) (b : List Int) (S : List Int) (h : List.length b + List.length S + wC c + 1 ≤ 2147483647) (ih : ∀ (z : Core), z ∈ Core.kids c → ∀ (b S : List Int),
 List.length b + List.length S + wC z + 1 ≤ 2147483647 → P_c_freeIn z b S)  : LoopSem Try.prog (loopAt Try.f113 0) (Ic_freeIn_sLa c b S) (Yc_freeIn_sLa c b S) := by
  refine LoopSem.ofHead wide fun k h => ⟨_, _, run_c_freeIn_sLa c b S k, ?_⟩
  have g := fun L n => (cntI_le (b := L) (n := n)).2
  have g' := fun L n => (cntI_le (b := L) (n := n)).1
  have g4 := wC_eq c
  with_reducible repeat' (first | apply And.intro | exact flatI | exact flatS | exact rowLens | exact ih | (intro; skip) | apply obsN | apply obsC | apply obA | apply obM | apply obB | apply svA | apply tupA | apply lcA | apply lcS | apply svC | apply liC | apply lbC | apply lsC | apply vIc | apply vBc | apply vSc | apply vLc | apply mapC | apply mIc | apply mOc | apply mSc | apply mLc | apply Hc_freeIn_sLa | apply Ec_freeIn_sLa | apply Hc_freeIn_sLb | apply Ec_freeIn_sLb | apply Hc_freeIn_sLc | apply Ec_freeIn_sLc | apply Sc_freeIn_sLb | apply Sc_freeIn_sLc | apply EW0c_freeIn_sLa | apply EW0c_freeIn_sLb | apply EW0c_freeIn_sLc | apply c_addNum)
  all_goals (try simp only [std] at *)
  all_goals (try (first | with_reducible rfl | omega | assumption | (refine (decide_eq_true ?_).symm; assumption) | (refine (decide_eq_false ?_).symm; assumption) | (refine rowGet ?_; (first | omega | (simp only [std]; omega) | grind)) | (refine getC ?_ rfl; (first | omega | (simp only [std]; omega) | grind)) | exact look_mI | exact look_mO | exact look_mO1 | exact look_mS | exact look_mL | exact upd_mI | exact upd_mO | exact del_mO | exact upd_mS | exact take_mL | (refine upd_mL ?_; grind) | (refine fill_step ?_ ?_; (first | omega | (simp only [std]; omega) | grind); (first | rfl | exact (Row.eq _).trans rfl)) | (refine fill_init ?_; (first | rfl | exact (Row.eq _).trans rfl)) | grind [cntI_inc, take_get, snocI, snocS, rowSnoc]))
abbrev a1_c_freeIn_s (c : Core) (b : List Int) (S : List Int) := (True → List.length (List.map coreC (Core.kids c)) ≤ 9223372036854775807 → Tc_freeIn_sLb c b S (li 0) (Ob.arr true
 1 (List.map intC (fre0 c b S))) (Ob.map (decide (fre0 c b S = [])) kI (mI (memI (fre0 c b S)))) = Lc_freeIn_sLb c b S 0 ∧ Ic_freeIn_sLb c b S (List.length (Core.kids c) - 0)
 (Lc_freeIn_sLb c b S 0) ∧ LoopSem Try.prog (loopAt Try.f113 1) (Ic_freeIn_sLb c b S) (Yc_freeIn_sLb c b S) ∧ (True → List.length (List.map intC (Core.params c)) ≤
 9223372036854775807 → Tc_freeIn_sLc c b S (li 0) (Ob.map false kI (mI (cntI (b ++ Core.params c)))) = Lc_freeIn_sLc c b S 0 ∧ Ic_freeIn_sLc c b S (List.length (Core.params c) - 0)
 (Lc_freeIn_sLc c b S 0) ∧ LoopSem Try.prog (loopAt Try.f113 2) (Ic_freeIn_sLc c b S) (Yc_freeIn_sLc c b S) ∧ (True → ObsEq [Ob.map false kI (mI (cntI b)), Ob.box [AC.ref 4,
 AC.mref 5], Ob.dead, Ob.dead, Ob.arr true 1 (List.map intC (fre c b S)), Ob.map (decide (fre c b S = [])) kI (mI (memI (fre c b S)))] [Ob.map false kI (mI (cntI b)), Ob.box
 [AC.ref 4, AC.mref 5], Ob.dead, Ob.dead, Ob.arr true 1 (List.map intC (fre c b S)), Ob.map (decide (fre c b S = [])) kI (mI (memI (fre c b S)))] ∧ AV.tup [] = AV.tup []) ∧ True) ∧
 True)
abbrev a2_c_freeIn_s (c : Core) (b : List Int) (S : List Int) := [(True, AEx.exit 0, W0c_freeIn_sLa c b S (Ob.map false kI (mI (cntI (b ++ Core.params c)))) (Ob.arr true 1
 (List.map intC (fre0 c b S))) (Ob.map (decide (fre0 c b S = [])) kI (mI (memI (fre0 c b S)))), [Orc.ghost (Ghost.sel [0, 1, 2, 3, 4, 5, 6] [1, 2, 3, 44, 45, 46]), Orc.loop
 (List.length (Core.kids c) - 0) (Lc_freeIn_sLb c b S 0) (Ic_freeIn_sLb c b S) [(True, AEx.exit 2, W0c_freeIn_sLb c b S (Ob.arr true 1 (List.map intC (fre c b S))) (Ob.map (decide
 (fre c b S = [])) kI (mI (memI (fre c b S)))), [Orc.ghost (Ghost.sel [0, 1, 2, 3, 5, 6] [1, 56, 57, 58]), Orc.loop (List.length (Core.params c) - 0) (Lc_freeIn_sLc c b S 0)
 (Ic_freeIn_sLc c b S) [(True, AEx.exit 4, W0c_freeIn_sLc c b S (Ob.map false kI (mI (cntI b))), [Orc.fin [4, 5]])]])]])]
abbrev a3_c_freeIn_s (c : Core) (b : List Int) (S : List Int) := (decide (cntI b (Core.number c) = 0) = true → P_c_addNum S (Core.number c) ∧ (List.length (List.map intC
 (Core.params c)) ≤ 9223372036854775807 → Tc_freeIn_sLa c b S (li 0) (Ob.map false kI (mI (cntI b))) (Ob.arr true 1 (List.map intC (addU S (Core.number c)))) (Ob.map (decide (addU
 S (Core.number c) = [])) kI (mI (memI (addU S (Core.number c))))) = Lc_freeIn_sLa c b S 0 ∧ Ic_freeIn_sLa c b S (List.length (Core.params c) - 0) (Lc_freeIn_sLa c b S 0) ∧ LoopSem
 Try.prog (loopAt Try.f113 0) (Ic_freeIn_sLa c b S) (Yc_freeIn_sLa c b S) ∧ (a1_c_freeIn_s c b S) ∧ True))
abbrev a4_c_freeIn_s (c : Core) (b : List Int) (S : List Int) := [Orc.call [Mode.ptr, Mode.rd] [Ob.box [AC.ref 3, AC.mref 4], Ob.dead, Ob.dead, Ob.arr true 1 (List.map intC (addU S
 (Core.number c))), Ob.map (decide (addU S (Core.number c) = [])) kI (mI (memI (addU S (Core.number c))))] (AV.tup []), Orc.ghost (Ghost.sel [0, 1, 2, 3, 4, 8, 9] [1, 2, 3, 32, 33,
 34]), Orc.loop (List.length (Core.params c) - 0) (Lc_freeIn_sLa c b S 0) (Ic_freeIn_sLa c b S) (a2_c_freeIn_s c b S)]
abbrev a5_c_freeIn_s (c : Core) (b : List Int) (S : List Int) := (decide (cntI b (Core.number c) = 0) = false → List.length (List.map intC (Core.params c)) ≤ 9223372036854775807 →
 Tc_freeIn_sLa c b S (li 0) (Ob.map false kI (mI (cntI b))) (Ob.arr true 1 (List.map intC S)) (Ob.map (decide (S = [])) kI (mI (memI S))) = Lc_freeIn_sLa c b S 0 ∧ Ic_freeIn_sLa c
 b S (List.length (Core.params c) - 0) (Lc_freeIn_sLa c b S 0) ∧ LoopSem Try.prog (loopAt Try.f113 0) (Ic_freeIn_sLa c b S) (Yc_freeIn_sLa c b S) ∧ (a1_c_freeIn_s c b S) ∧ True)
abbrev a6_c_freeIn_s (c : Core) (b : List Int) (S : List Int) := [Orc.ghost (Ghost.move 2), Orc.ghost (Ghost.move 3), Orc.ghost (Ghost.sel [0, 1, 2, 3, 4, 5, 6] [1, 2, 3, 32, 33,
 34]), Orc.loop (List.length (Core.params c) - 0) (Lc_freeIn_sLa c b S 0) (Ic_freeIn_sLa c b S) (a2_c_freeIn_s c b S)]
theorem run_c_freeIn_s (c : Core) (b : List Int) (S : List Int) : aexec Try.prog (Option.getD (Func.body Try.f113) Code.skip) (entry [Ob.map false kI (mI (cntI b)), Ob.box [AC.ref
 2, AC.mref 3], Ob.arr true 1 (List.map intC S), Ob.map (decide (S = [])) kI (mI (memI S))] [coreA c, SV.one (AC.mref 0), SV.one (AC.ptr 1 0)] 67) [Orc.br [Orc.bool true, Orc.cells
 [cI (cntI b (Core.number c))], Orc.br (a4_c_freeIn_s c b S) (a6_c_freeIn_s c b S)] [Orc.br [Orc.cells [cI (cntI b (Core.number c))], Orc.br (a4_c_freeIn_s c b S) (a6_c_freeIn_s c
 b S)] [Orc.bool false, Orc.ghost (Ghost.move 2), Orc.ghost (Ghost.move 3), Orc.ghost (Ghost.sel [0, 1, 2, 3, 4, 5, 6] [1, 2, 3, 32, 33, 34]), Orc.loop (List.length (Core.params c)
 - 0) (Lc_freeIn_sLa c b S 0) (Ic_freeIn_sLa c b S) (a2_c_freeIn_s c b S)]]] (finK Try.prog [] [Ob.map false kI (mI (cntI b)), Ob.box [AC.ref 4, AC.mref 5], Ob.dead, Ob.dead,
 Ob.arr true 1 (List.map intC (fre c b S)), Ob.map (decide (fre c b S = [])) kI (mI (memI (fre c b S)))] (AV.tup [])) = ((decide (Core.kind c = 2) = true → true = true ∧ LookAt
 (Value.int IntKind.i64 0) (mI (cntI b)) (Value.int IntKind.i64 (Core.number c)) (cI (cntI b (Core.number c))) ∧ (a3_c_freeIn_s c b S) ∧ (a5_c_freeIn_s c b S)) ∧ (decide (Core.kind
 c = 2) = false → (decide (Core.kind c = 4) = true → LookAt (Value.int IntKind.i64 0) (mI (cntI b)) (Value.int IntKind.i64 (Core.number c)) (cI (cntI b (Core.number c))) ∧
 (a3_c_freeIn_s c b S) ∧ (a5_c_freeIn_s c b S)) ∧ (decide (Core.kind c = 4) = false → false = false ∧ (List.length (List.map intC (Core.params c)) ≤ 9223372036854775807 →
 Tc_freeIn_sLa c b S (li 0) (Ob.map false kI (mI (cntI b))) (Ob.arr true 1 (List.map intC S)) (Ob.map (decide (S = [])) kI (mI (memI S))) = Lc_freeIn_sLa c b S 0 ∧ Ic_freeIn_sLa c
 b S (List.length (Core.params c) - 0) (Lc_freeIn_sLa c b S 0) ∧ LoopSem Try.prog (loopAt Try.f113 0) (Ic_freeIn_sLa c b S) (Yc_freeIn_sLa c b S) ∧ (a1_c_freeIn_s c b S) ∧ True))))
 := by kernel_rfl
theorem c_freeIn_s (c : Core) (b S : List Int) (h : b.length + S.length + wC c + 1 ≤ 2147483647) (ih : ∀ z ∈ c.kids, ∀ (b : List Int) (S : List Int) (h : b.length + S.length + wC z
 + 1 ≤ 2147483647), P_c_freeIn z b S)  : P_c_freeIn c b S := by
  refine CallOK.ofRun wide (run_c_freeIn_s c b S) Try.call113 Try.func113 rfl rfl rfl ?_
  try delta a1_c_freeIn_s a2_c_freeIn_s a3_c_freeIn_s a4_c_freeIn_s a5_c_freeIn_s a6_c_freeIn_s
  with_reducible repeat' (first | apply And.intro | exact flatI | exact flatS | exact rowLens | exact ih | (intro; skip) | apply obsN | apply obsC | apply obA | apply obM | apply obB | apply svA | apply tupA | apply lcA | apply lcS | apply svC | apply liC | apply lbC | apply lsC | apply vIc | apply vBc | apply vSc | apply vLc | apply mapC | apply mIc | apply mOc | apply mSc | apply mLc | apply Hc_freeIn_sLa | apply Ec_freeIn_sLa | apply Sc_freeIn_sLa | apply Hc_freeIn_sLb | apply Ec_freeIn_sLb | apply Sc_freeIn_sLb | apply Hc_freeIn_sLc | apply Ec_freeIn_sLc | apply Sc_freeIn_sLc | apply EW0c_freeIn_sLa | apply EW0c_freeIn_sLb | apply EW0c_freeIn_sLc | apply c_addNum)
  all_goals (try simp only [std] at *)
  all_goals (try (first | with_reducible rfl | omega | assumption | (refine (decide_eq_true ?_).symm; assumption) | (refine (decide_eq_false ?_).symm; assumption) | (refine rowGet ?_; (first | omega | (simp only [std]; omega) | grind)) | (refine getC ?_ rfl; (first | omega | (simp only [std]; omega) | grind)) | exact look_mI | exact look_mO | exact look_mO1 | exact look_mS | exact look_mL | exact upd_mI | exact upd_mO | exact del_mO | exact upd_mS | exact take_mL | (refine upd_mL ?_; grind) | (refine fill_step ?_ ?_; (first | omega | (simp only [std]; omega) | grind); (first | rfl | exact (Row.eq _).trans rfl)) | (refine fill_init ?_; (first | rfl | exact (Row.eq _).trans rfl)) | grind [cntI_zero, fre0, snocI, snocS, rowSnoc]))
theorem c_freeIn (c : Core) : ∀ (b : List Int) (S : List Int) (h : b.length + S.length + wC c + 1 ≤ 2147483647), P_c_freeIn c b S := Core.ind (P := fun c => ∀ (b : List Int) (S : List Int) (h : b.length + S.length + wC c + 1 ≤ 2147483647), P_c_freeIn c b S) (fun c ih b S h => c_freeIn_s c b S h ih) c

abbrev P_c_sHas (L : List Int) (n : Int) : Prop := CallOK Try.prog 176 [] [ll (L.map intC), li n] [] (.sv (lb (decide (n ∈ L))))
def Tc_sHasLa (L : List Int) (n : Int) (x0 : SV) : St := St.mk (regsOf 17 [(1, AV.sv (li n)), (7, AV.sv (ll (List.map intC L))), (8, AV.sv (li (↑(List.length (List.map intC L)) :
 Int))), (9, AV.sv x0)]) [] 0 
def Lc_sHasLa (L : List Int) (n : Int) (k : Nat) : St := Tc_sHasLa L n (li (↑k : Int)) 
def Ic_sHasLa (L : List Int) (n : Int) : Nat → St → Prop := Head (Lc_sHasLa L n) (fun k => k ≤ List.length L ∧ List.length L ≤ 9223372036854775807 ∧ ¬n ∈ List.take k L) fun k =>
 List.length L - k 
def W0c_sHasLa (L : List Int) (n : Int) : St := St.mk (regsOf 17 []) [] 0 
def W1c_sHasLa (L : List Int) (n : Int) (x0 : SV) : St := St.mk (regsOf 17 [(4, AV.sv x0)]) [] 0 
def Yc_sHasLa (L : List Int) (n : Int) : List (Prop × AEx × St) := [(¬n ∈ L, AEx.exit 0, W0c_sHasLa L n), (n ∈ L, AEx.ret, W1c_sHasLa L n (lb true))]
theorem Hc_sHasLa {L : List Int} {n : Int} {k : Nat} {m : Nat} (h : (fun k => k ≤ List.length L ∧ List.length L ≤ 9223372036854775807 ∧ ¬n ∈ List.take k L) k) (hm : (fun k =>
 List.length L - k) k = m) : Ic_sHasLa L n m (Lc_sHasLa L n k) := hm ▸ Head.mk h
theorem Ec_sHasLa {L : List Int} {n : Int} {k : Nat} {x0 : SV} (h0 : x0 = (li (↑k : Int))) : Tc_sHasLa L n x0 = Lc_sHasLa L n k := by
  rw [h0]
  rfl
theorem EW1c_sHasLa {L : List Int} {n : Int} {x0 y0 : SV} (h0 : x0 = y0) : W1c_sHasLa L n x0 = W1c_sHasLa L n y0 := by rw [h0]
theorem run_c_sHasLa (L : List Int) (n : Int) (k : Nat) : aexec Try.prog (loopAt Try.f176 0) (Lc_sHasLa L n k) [Orc.br [Orc.cells (intC (List.getD L k default)), Orc.br [Orc.ghost
 (Ghost.sel [] [4]), Orc.out 1] [Orc.ghost (Ghost.sel [] [1, 7, 8, 9]), Orc.goto (List.length L - (k + 1)) (Lc_sHasLa L n (k + 1))]] [Orc.ghost (Ghost.sel [] []), Orc.out 0]]
 (loopK (Ic_sHasLa L n) (Yc_sHasLa L n) (List.length L - k)) = ((decide ((↑k : Int) < (↑(List.length (List.map intC L)) : Int)) = true → (0 ≤ (↑k : Int) ∧ (List.map intC
 L)[Int.toNat (↑k : Int)]? = some [cI (List.getD L k 0)]) ∧ (decide (List.getD L k 0 = n) = true → n ∈ L ∧ W1c_sHasLa L n (lb true) = W1c_sHasLa L n (lb true)) ∧ (decide (List.getD
 L k 0 = n) = false → rng IntKind.i64 ((↑k : Int) + 1) ∧ List.length L - (k + 1) < List.length L - k ∧ Tc_sHasLa L n (li ((↑k : Int) + 1)) = Lc_sHasLa L n (k + 1) ∧ Ic_sHasLa L n
 (List.length L - (k + 1)) (Lc_sHasLa L n (k + 1)))) ∧ (decide ((↑k : Int) < (↑(List.length (List.map intC L)) : Int)) = false → ¬n ∈ L ∧ W0c_sHasLa L n = W0c_sHasLa L n)) := by
 kernel_rfl
theorem Sc_sHasLa (L : List Int) (n : Int)  : LoopSem Try.prog (loopAt Try.f176 0) (Ic_sHasLa L n) (Yc_sHasLa L n) := by
  refine LoopSem.ofHead wide fun k h => ⟨_, _, run_c_sHasLa L n k, ?_⟩
  with_reducible repeat' (first | apply And.intro | exact flatI | exact flatS | exact rowLens | (intro; skip) | apply obsN | apply obsC | apply obA | apply obM | apply obB | apply svA | apply tupA | apply lcA | apply lcS | apply svC | apply liC | apply lbC | apply lsC | apply vIc | apply vBc | apply vSc | apply vLc | apply mapC | apply mIc | apply mOc | apply mSc | apply mLc | apply Hc_sHasLa | apply Ec_sHasLa | apply EW1c_sHasLa)
  all_goals (try simp only [std] at *)
  all_goals (try (first | with_reducible rfl | omega | assumption | (refine (decide_eq_true ?_).symm; assumption) | (refine (decide_eq_false ?_).symm; assumption) | (refine rowGet ?_; (first | omega | (simp only [std]; omega) | grind)) | (refine getC ?_ rfl; (first | omega | (simp only [std]; omega) | grind)) | exact look_mI | exact look_mO | exact look_mO1 | exact look_mS | exact look_mL | exact upd_mI | exact upd_mO | exact del_mO | exact upd_mS | exact take_mL | (refine upd_mL ?_; grind) | (refine fill_step ?_ ?_; (first | omega | (simp only [std]; omega) | grind); (first | rfl | exact (Row.eq _).trans rfl)) | (refine fill_init ?_; (first | rfl | exact (Row.eq _).trans rfl)) | grind [take_get, getD_mem', snocI, snocS, rowSnoc]))
theorem run_c_sHas (L : List Int) (n : Int) : aexec Try.prog (Option.getD (Func.body Try.f176) Code.skip) (entry [] [ll (List.map intC L), li n] 17) [Orc.ghost (Ghost.sel [] [1, 7,
 8, 9]), Orc.loop (List.length L - 0) (Lc_sHasLa L n 0) (Ic_sHasLa L n) [(¬n ∈ L, AEx.exit 0, W0c_sHasLa L n, [Orc.fin []]), (n ∈ L, AEx.ret, W1c_sHasLa L n (lb true), [Orc.fin
 []])]] (finK Try.prog [ResultVar.tmp 4] [] (AV.sv (lb (decide (n ∈ L))))) = (List.length (List.map intC L) ≤ 9223372036854775807 → Tc_sHasLa L n (li 0) = Lc_sHasLa L n 0 ∧
 Ic_sHasLa L n (List.length L - 0) (Lc_sHasLa L n 0) ∧ LoopSem Try.prog (loopAt Try.f176 0) (Ic_sHasLa L n) (Yc_sHasLa L n) ∧ ((n ∈ L → False) → ObsEq [] [] ∧ AV.sv (lb false) =
 AV.sv (lb (decide (n ∈ L)))) ∧ (List.Mem n L → ObsEq [] [] ∧ AV.sv (lb true) = AV.sv (lb (decide (n ∈ L)))) ∧ True) := by kernel_rfl
theorem c_sHas (L : List Int) (n : Int)  : P_c_sHas L n := by
  refine CallOK.ofRun wide (run_c_sHas L n) Try.call176 Try.func176 rfl rfl rfl ?_
  with_reducible repeat' (first | apply And.intro | exact flatI | exact flatS | exact rowLens | (intro; skip) | apply obsN | apply obsC | apply obA | apply obM | apply obB | apply svA | apply tupA | apply lcA | apply lcS | apply svC | apply liC | apply lbC | apply lsC | apply vIc | apply vBc | apply vSc | apply vLc | apply mapC | apply mIc | apply mOc | apply mSc | apply mLc | apply Hc_sHasLa | apply Ec_sHasLa | apply Sc_sHasLa | apply EW1c_sHasLa)
  all_goals (try simp only [std] at *)
  all_goals (try (first | with_reducible rfl | omega | assumption | (refine (decide_eq_true ?_).symm; assumption) | (refine (decide_eq_false ?_).symm; assumption) | (refine rowGet ?_; (first | omega | (simp only [std]; omega) | grind)) | (refine getC ?_ rfl; (first | omega | (simp only [std]; omega) | grind)) | exact look_mI | exact look_mO | exact look_mO1 | exact look_mS | exact look_mL | exact upd_mI | exact upd_mO | exact del_mO | exact upd_mS | exact take_mL | (refine upd_mL ?_; grind) | (refine fill_step ?_ ?_; (first | omega | (simp only [std]; omega) | grind); (first | rfl | exact (Row.eq _).trans rfl)) | (refine fill_init ?_; (first | rfl | exact (Row.eq _).trans rfl)) | grind [snocI, snocS, rowSnoc]))

abbrev P_c_l2Ints (L : List Int) : Prop := CallOK Try.prog 174 [] [ll (L.map intC)] [.arr true 1 (L.map intC)] (.sv (.one (.ref 0)))
theorem run_c_l2Ints (L : List Int) : aexec Try.prog (Option.getD (Func.body Try.f174) Code.skip) (entry [] [ll (List.map intC L)] 6) [Orc.fin [1]] (finK Try.prog [ResultVar.tmp 2]
 [Ob.arr true 1 (List.map intC L)] (AV.sv (SV.one (AC.ref 0)))) = ((∀ (e : List Cell), e ∈ List.map intC L → ∀ (c : Cell), c ∈ e → ∃ v, c = Cell.lit v) ∧ (∀ (e : List Cell), e ∈
 List.map intC L → List.length e = 1) ∧ (0 + List.length (List.map intC L)) * 8 ≤ 140737488355328 ∧ ObsEq [Ob.arr true 1 ([] ++ List.map intC L)] [Ob.arr true 1 (List.map intC L)]
 ∧ AV.sv (SV.one (AC.ref 0)) = AV.sv (SV.one (AC.ref 0))) := by kernel_rfl
theorem c_l2Ints (L : List Int) (h : L.length ≤ 2147483647)  : P_c_l2Ints L := by
  refine CallOK.ofRun wide (run_c_l2Ints L) Try.call174 Try.func174 rfl rfl rfl ?_
  with_reducible repeat' (first | apply And.intro | exact flatI | exact flatS | exact rowLens | (intro; skip) | apply obsN | apply obsC | apply obA | apply obM | apply obB | apply svA | apply tupA | apply lcA | apply lcS | apply svC | apply liC | apply lbC | apply lsC | apply vIc | apply vBc | apply vSc | apply vLc | apply mapC | apply mIc | apply mOc | apply mSc | apply mLc)
  all_goals (try simp only [std] at *)
  all_goals (try (first | with_reducible rfl | omega | assumption | (refine (decide_eq_true ?_).symm; assumption) | (refine (decide_eq_false ?_).symm; assumption) | (refine rowGet ?_; (first | omega | (simp only [std]; omega) | grind)) | (refine getC ?_ rfl; (first | omega | (simp only [std]; omega) | grind)) | exact look_mI | exact look_mO | exact look_mO1 | exact look_mS | exact look_mL | exact upd_mI | exact upd_mO | exact del_mO | exact upd_mS | exact take_mL | (refine upd_mL ?_; grind) | (refine fill_step ?_ ?_; (first | omega | (simp only [std]; omega) | grind); (first | rfl | exact (Row.eq _).trans rfl)) | (refine fill_init ?_; (first | rfl | exact (Row.eq _).trans rfl)) | grind [snocI, snocS, rowSnoc]))

abbrev P_c_l5Names (c : Core) : Prop := CallOK Try.prog 216 [] [coreA c] [] (.sv (lb (decide (c.kind = 2 ∨ c.kind = 4))))
theorem run_c_l5Names (c : Core) : aexec Try.prog (Option.getD (Func.body Try.f216) Code.skip) (entry [] [coreA c] 11) [Orc.br [Orc.fin []] [Orc.fin []]] (finK Try.prog
 [ResultVar.tmp 2] [] (AV.sv (lb (decide (Core.kind c = 2 ∨ Core.kind c = 4))))) = ((decide (Core.kind c = 2) = true → ObsEq [] [] ∧ AV.sv (lb true) = AV.sv (lb (decide (Core.kind
 c = 2 ∨ Core.kind c = 4)))) ∧ (decide (Core.kind c = 2) = false → ObsEq [] [] ∧ AV.sv (lb (decide (Core.kind c = 4))) = AV.sv (lb (decide (Core.kind c = 2 ∨ Core.kind c = 4)))))
 := by kernel_rfl
theorem c_l5Names (c : Core)  : P_c_l5Names c := by
  refine CallOK.ofRun wide (run_c_l5Names c) Try.call216 Try.func216 rfl rfl rfl ?_
  with_reducible repeat' (first | apply And.intro | exact flatI | exact flatS | exact rowLens | (intro; skip) | apply obsN | apply obsC | apply obA | apply obM | apply obB | apply svA | apply tupA | apply lcA | apply lcS | apply svC | apply liC | apply lbC | apply lsC | apply vIc | apply vBc | apply vSc | apply vLc | apply mapC | apply mIc | apply mOc | apply mSc | apply mLc)
  all_goals (try simp only [std] at *)
  all_goals (try (first | with_reducible rfl | omega | assumption | (refine (decide_eq_true ?_).symm; assumption) | (refine (decide_eq_false ?_).symm; assumption) | (refine rowGet ?_; (first | omega | (simp only [std]; omega) | grind)) | (refine getC ?_ rfl; (first | omega | (simp only [std]; omega) | grind)) | exact look_mI | exact look_mO | exact look_mO1 | exact look_mS | exact look_mL | exact upd_mI | exact upd_mO | exact del_mO | exact upd_mS | exact take_mL | (refine upd_mL ?_; grind) | (refine fill_step ?_ ?_; (first | omega | (simp only [std]; omega) | grind); (first | rfl | exact (Row.eq _).trans rfl)) | (refine fill_init ?_; (first | rfl | exact (Row.eq _).trans rfl)) | grind [snocI, snocS, rowSnoc]))

abbrev P_c_l5Free (c : Core) (b : List Int) (S : List Int) : Prop := CallOK Try.prog 111 [.arr true 1 (S.map intC)] [coreA c, ll (b.map intC), .one (.ref 0)] [.dead, .arr true 1 ((fre c b S).map intC)] (.sv (.one (.ref 1)))
def Tc_l5Free_sLa (c : Core) (b : List Int) (S : List Int) (x0 : SV) (x1 : Ob) : St := St.mk (regsOf 48 [(1, AV.sv (SV.one (AC.ref 1))), (2, AV.sv (SV.one (AC.ref 2))), (36, AV.sv
 (ll (List.map coreC (Core.kids c)))), (37, AV.sv (li (↑(List.length (List.map coreC (Core.kids c))) : Int))), (38, AV.sv x0)]) [Ob.dead, Ob.arr true 1 (List.map intC b ++ List.map
 intC (Core.params c)), x1] 1 
def Lc_l5Free_sLa (c : Core) (b : List Int) (S : List Int) (k : Nat) : St := Tc_l5Free_sLa c b S (li (↑k : Int)) (Ob.arr true 1 (List.map intC (List.foldl (fun o x => fre x (b ++
 Core.params c) o) (fre0 c b S) (List.take k (Core.kids c))))) 
def Ic_l5Free_sLa (c : Core) (b : List Int) (S : List Int) : Nat → St → Prop := Head (Lc_l5Free_sLa c b S) (fun k => k ≤ List.length (Core.kids c) ∧ List.length (Core.kids c) ≤
 9223372036854775807) fun k => List.length (Core.kids c) - k 
def W0c_l5Free_sLa (c : Core) (b : List Int) (S : List Int) (x0 : Ob) : St := St.mk (regsOf 48 [(2, AV.sv (SV.one (AC.ref 1)))]) [Ob.dead, x0] 1 
def Yc_l5Free_sLa (c : Core) (b : List Int) (S : List Int) : List (Prop × AEx × St) := [(True, AEx.exit 0, W0c_l5Free_sLa c b S (Ob.arr true 1 (List.map intC (fre c b S))))]
theorem Hc_l5Free_sLa {c : Core} {b : List Int} {S : List Int} {k : Nat} {m : Nat} (h : (fun k => k ≤ List.length (Core.kids c) ∧ List.length (Core.kids c) ≤ 9223372036854775807)
 k) (hm : (fun k => List.length (Core.kids c) - k) k = m) : Ic_l5Free_sLa c b S m (Lc_l5Free_sLa c b S k) := hm ▸ Head.mk h
theorem Ec_l5Free_sLa {c : Core} {b : List Int} {S : List Int} {k : Nat} {x0 : SV} {x1 : Ob} (h0 : x0 = (li (↑k : Int))) (h1 : x1 = (Ob.arr true 1 (List.map intC (List.foldl (fun o
 x => fre x (b ++ Core.params c) o) (fre0 c b S) (List.take k (Core.kids c)))))) : Tc_l5Free_sLa c b S x0 x1 = Lc_l5Free_sLa c b S k := by
  rw [h0, h1]
  rfl
theorem EW0c_l5Free_sLa {c : Core} {b : List Int} {S : List Int} {x0 y0 : Ob} (h0 : x0 = y0) : W0c_l5Free_sLa c b S x0 = W0c_l5Free_sLa c b S y0 := by rw [h0]
theorem run_c_l5Free_sLa (c : Core) (b : List Int) (S : List Int) (k : Nat) : aexec Try.prog (loopAt Try.f111 0) (Lc_l5Free_sLa c b S k) [Orc.br [Orc.cells (coreF (List.getD
 (Core.kids c) k default)), Orc.call [Mode.rd, Mode.rd, Mode.own true 1] [Ob.dead, Ob.arr true 1 (List.map intC (fre (List.getD (Core.kids c) k default) (b ++ Core.params c)
 (List.foldl (fun o x => fre x (b ++ Core.params c) o) (fre0 c b S) (List.take k (Core.kids c)))))] (AV.sv (SV.one (AC.ref 1))), Orc.ghost (Ghost.sel [0, 1, 5] [1, 2, 36, 37, 38]),
 Orc.goto (List.length (Core.kids c) - (k + 1)) (Lc_l5Free_sLa c b S (k + 1))] [Orc.ghost (Ghost.sel [0, 2] [2]), Orc.out 0]] (loopK (Ic_l5Free_sLa c b S) (Yc_l5Free_sLa c b S)
 (List.length (Core.kids c) - k)) = ((decide ((↑k : Int) < (↑(List.length (List.map coreC (Core.kids c))) : Int)) = true → (0 ≤ (↑k : Int) ∧ (List.map coreC (Core.kids
 c))[Int.toNat (↑k : Int)]? = some (coreF (List.getD (Core.kids c) k default))) ∧ CallOK Try.prog 111 [Ob.arr true 1 (List.map intC (List.foldl (fun o x => fre x (b ++ Core.params
 c) o) (fre0 c b S) (List.take k (Core.kids c))))] [SV.agg (vals (coreF (List.getD (Core.kids c) k default))), ll (List.map intC b ++ List.map intC (Core.params c)), SV.one (AC.ref
 0)] [Ob.dead, Ob.arr true 1 (List.map intC (fre (List.getD (Core.kids c) k default) (b ++ Core.params c) (List.foldl (fun o x => fre x (b ++ Core.params c) o) (fre0 c b S)
 (List.take k (Core.kids c)))))] (AV.sv (SV.one (AC.ref 1))) ∧ rng IntKind.i64 ((↑k : Int) + 1) ∧ List.length (Core.kids c) - (k + 1) < List.length (Core.kids c) - k ∧
 Tc_l5Free_sLa c b S (li ((↑k : Int) + 1)) (Ob.arr true 1 (List.map intC (fre (List.getD (Core.kids c) k default) (b ++ Core.params c) (List.foldl (fun o x => fre x (b ++
 Core.params c) o) (fre0 c b S) (List.take k (Core.kids c)))))) = Lc_l5Free_sLa c b S (k + 1) ∧ Ic_l5Free_sLa c b S (List.length (Core.kids c) - (k + 1)) (Lc_l5Free_sLa c b S (k +
 1))) ∧ (decide ((↑k : Int) < (↑(List.length (List.map coreC (Core.kids c))) : Int)) = false → True ∧ W0c_l5Free_sLa c b S (Ob.arr true 1 (List.map intC (List.foldl (fun o x => fre
 x (b ++ Core.params c) o) (fre0 c b S) (List.take k (Core.kids c))))) = W0c_l5Free_sLa c b S (Ob.arr true 1 (List.map intC (fre c b S))))) := by kernel_rfl
theorem Sc_l5Free_sLa (c : Core) (b : List Int) (S : List Int) (h : List.length b + List.length S + wC c + 1 ≤ 2147483647) (ih : ∀ (z : Core), z ∈ Core.kids c → ∀ (b S : List Int),
 List.length b + List.length S + wC z + 1 ≤ 2147483647 → P_c_l5Free z b S)  : LoopSem Try.prog (loopAt Try.f111 0) (Ic_l5Free_sLa c b S) (Yc_l5Free_sLa c b S) := by
  refine LoopSem.ofHead wide fun k h => ⟨_, _, run_c_l5Free_sLa c b S k, ?_⟩
  have g1 := foldl_len (fun o x => fre x (b ++ c.params) o) wC (c.kids.take k) (fun y _ o => fre_len y _ o) (fre0 c b S)
  have g2 := fre0_len c b S
  have g3 := sumBy_takeLe wC c.kids (k + 1)
  have g4 := wC_eq c
  with_reducible repeat' (first | apply And.intro | exact flatI | exact flatS | exact rowLens | exact ih | (intro; skip) | apply obsN | apply obsC | apply obA | apply obM | apply obB | apply svA | apply tupA | apply lcA | apply lcS | apply svC | apply liC | apply lbC | apply lsC | apply vIc | apply vBc | apply vSc | apply vLc | apply mapC | apply mIc | apply mOc | apply mSc | apply mLc | apply Hc_l5Free_sLa | apply Ec_l5Free_sLa | apply EW0c_l5Free_sLa | apply c_sHas | apply c_l2Ints | apply c_l5Names | apply ih)
  all_goals (try simp only [std] at *)
  all_goals (try (first | with_reducible rfl | omega | assumption | (refine (decide_eq_true ?_).symm; assumption) | (refine (decide_eq_false ?_).symm; assumption) | (refine rowGet ?_; (first | omega | (simp only [std]; omega) | grind)) | (refine getC ?_ rfl; (first | omega | (simp only [std]; omega) | grind)) | exact look_mI | exact look_mO | exact look_mO1 | exact look_mS | exact look_mL | exact upd_mI | exact upd_mO | exact del_mO | exact upd_mS | exact take_mL | (refine upd_mL ?_; grind) | (refine fill_step ?_ ?_; (first | omega | (simp only [std]; omega) | grind); (first | rfl | exact (Row.eq _).trans rfl)) | (refine fill_init ?_; (first | rfl | exact (Row.eq _).trans rfl)) | grind [fre_eq, foldl_step, getD_mem', sumBy_step, snocI, snocS, rowSnoc]))
abbrev a1_c_l5Free_s (c : Core) (b : List Int) (S : List Int) := (List.length (List.map coreC (Core.kids c)) ≤ 9223372036854775807 → Tc_l5Free_sLa c b S (li 0) (Ob.arr true 1
 (List.map intC S)) = Lc_l5Free_sLa c b S 0 ∧ Ic_l5Free_sLa c b S (List.length (Core.kids c) - 0) (Lc_l5Free_sLa c b S 0) ∧ LoopSem Try.prog (loopAt Try.f111 0) (Ic_l5Free_sLa c b
 S) (Yc_l5Free_sLa c b S) ∧ (True → ObsEq [Ob.dead, Ob.arr true 1 (List.map intC (fre c b S))] [Ob.dead, Ob.arr true 1 (List.map intC (fre c b S))] ∧ AV.sv (SV.one (AC.ref 1)) =
 AV.sv (SV.one (AC.ref 1))) ∧ True)
abbrev a2_c_l5Free_s (c : Core) (b : List Int) (S : List Int) := [(True, AEx.exit 0, W0c_l5Free_sLa c b S (Ob.arr true 1 (List.map intC (fre c b S))), [Orc.fin [1]])]
theorem run_c_l5Free_s (c : Core) (b : List Int) (S : List Int) : aexec Try.prog (Option.getD (Func.body Try.f111) Code.skip) (entry [Ob.arr true 1 (List.map intC S)] [coreA c, ll
 (List.map intC b), SV.one (AC.ref 0)] 48) [Orc.call [Mode.rd] [] (AV.sv (lb (decide (Core.kind c = 2 ∨ Core.kind c = 4)))), Orc.br [Orc.call [Mode.rd, Mode.rd] [] (AV.sv (lb
 (decide (Core.number c ∈ b)))), Orc.br [Orc.call [Mode.rd, Mode.rd] [] (AV.sv (lb (decide (Core.number c ∈ S)))), Orc.br [Orc.draw [(4, [4])], Orc.call [Mode.rd] [Ob.arr true 1
 (List.map intC b)] (AV.sv (SV.one (AC.ref 0))), Orc.ghost (Ghost.sel [0, 12, 3] [1, 2, 36, 37, 38]), Orc.loop (List.length (Core.kids c) - 0) (Lc_l5Free_sLa c b S 0)
 (Ic_l5Free_sLa c b S) (a2_c_l5Free_s c b S)] [Orc.draw [(4, [2])], Orc.call [Mode.rd] [Ob.arr true 1 (List.map intC b)] (AV.sv (SV.one (AC.ref 0))), Orc.ghost (Ghost.move 0),
 Orc.ghost (Ghost.sel [0, 10, 11] [1, 2, 36, 37, 38]), Orc.loop (List.length (Core.kids c) - 0) (Lc_l5Free_sLa c b S 0) (Ic_l5Free_sLa c b S) (a2_c_l5Free_s c b S)]] [Orc.bool
 false, Orc.draw [(4, [2])], Orc.call [Mode.rd] [Ob.arr true 1 (List.map intC b)] (AV.sv (SV.one (AC.ref 0))), Orc.ghost (Ghost.move 0), Orc.ghost (Ghost.sel [0, 10, 11] [1, 2, 36,
 37, 38]), Orc.loop (List.length (Core.kids c) - 0) (Lc_l5Free_sLa c b S 0) (Ic_l5Free_sLa c b S) (a2_c_l5Free_s c b S)]] [Orc.bool false, Orc.bool false, Orc.draw [(4, [2])],
 Orc.call [Mode.rd] [Ob.arr true 1 (List.map intC b)] (AV.sv (SV.one (AC.ref 0))), Orc.ghost (Ghost.move 0), Orc.ghost (Ghost.sel [0, 10, 11] [1, 2, 36, 37, 38]), Orc.loop
 (List.length (Core.kids c) - 0) (Lc_l5Free_sLa c b S 0) (Ic_l5Free_sLa c b S) (a2_c_l5Free_s c b S)]] (finK Try.prog [ResultVar.tmp 6] [Ob.dead, Ob.arr true 1 (List.map intC (fre
 c b S))] (AV.sv (SV.one (AC.ref 1)))) = (P_c_l5Names c ∧ (decide (Core.kind c = 2 ∨ Core.kind c = 4) = true → P_c_sHas b (Core.number c) ∧ ((!decide (Core.number c ∈ b)) = true →
 P_c_sHas S (Core.number c) ∧ ((!decide (Core.number c ∈ S)) = true → (List.length (List.map intC S) + 1) * 8 ≤ 140737488355328 ∧ P_c_l2Ints b ∧ (∀ (e : List Cell), e ∈ List.map
 intC (Core.params c) → ∀ (c : Cell), c ∈ e → ∃ v, c = Cell.lit v) ∧ (∀ (e : List Cell), e ∈ List.map intC (Core.params c) → List.length e = 1) ∧ (List.length (List.map intC b) +
 List.length (List.map intC (Core.params c))) * 8 ≤ 140737488355328 ∧ (List.length (List.map coreC (Core.kids c)) ≤ 9223372036854775807 → Tc_l5Free_sLa c b S (li 0) (Ob.arr true 1
 (List.map intC S ++ [[cI (Core.number c)]])) = Lc_l5Free_sLa c b S 0 ∧ Ic_l5Free_sLa c b S (List.length (Core.kids c) - 0) (Lc_l5Free_sLa c b S 0) ∧ LoopSem Try.prog (loopAt
 Try.f111 0) (Ic_l5Free_sLa c b S) (Yc_l5Free_sLa c b S) ∧ (True → ObsEq [Ob.dead, Ob.arr true 1 (List.map intC (fre c b S))] [Ob.dead, Ob.arr true 1 (List.map intC (fre c b S))] ∧
 AV.sv (SV.one (AC.ref 1)) = AV.sv (SV.one (AC.ref 1))) ∧ True)) ∧ ((!decide (Core.number c ∈ S)) = false → P_c_l2Ints b ∧ (∀ (e : List Cell), e ∈ List.map intC (Core.params c) → ∀
 (c : Cell), c ∈ e → ∃ v, c = Cell.lit v) ∧ (∀ (e : List Cell), e ∈ List.map intC (Core.params c) → List.length e = 1) ∧ (List.length (List.map intC b) + List.length (List.map intC
 (Core.params c))) * 8 ≤ 140737488355328 ∧ (a1_c_l5Free_s c b S))) ∧ ((!decide (Core.number c ∈ b)) = false → false = false ∧ P_c_l2Ints b ∧ (∀ (e : List Cell), e ∈ List.map intC
 (Core.params c) → ∀ (c : Cell), c ∈ e → ∃ v, c = Cell.lit v) ∧ (∀ (e : List Cell), e ∈ List.map intC (Core.params c) → List.length e = 1) ∧ (List.length (List.map intC b) +
 List.length (List.map intC (Core.params c))) * 8 ≤ 140737488355328 ∧ (a1_c_l5Free_s c b S))) ∧ (decide (Core.kind c = 2 ∨ Core.kind c = 4) = false → false = false ∧ false = false
 ∧ P_c_l2Ints b ∧ (∀ (e : List Cell), e ∈ List.map intC (Core.params c) → ∀ (c : Cell), c ∈ e → ∃ v, c = Cell.lit v) ∧ (∀ (e : List Cell), e ∈ List.map intC (Core.params c) →
 List.length e = 1) ∧ (List.length (List.map intC b) + List.length (List.map intC (Core.params c))) * 8 ≤ 140737488355328 ∧ (a1_c_l5Free_s c b S))) := by kernel_rfl
theorem c_l5Free_s (c : Core) (b S : List Int) (h : b.length + S.length + wC c + 1 ≤ 2147483647) (ih : ∀ z ∈ c.kids, ∀ (b : List Int) (S : List Int) (h : b.length + S.length + wC z
 + 1 ≤ 2147483647), P_c_l5Free z b S)  : P_c_l5Free c b S := by
  refine CallOK.ofRun wide (run_c_l5Free_s c b S) Try.call111 Try.func111 rfl rfl rfl ?_
  try delta a1_c_l5Free_s a2_c_l5Free_s
  have g4 := wC_eq c
  with_reducible repeat' (first | apply And.intro | exact flatI | exact flatS | exact rowLens | exact ih | (intro; skip) | apply obsN | apply obsC | apply obA | apply obM | apply obB | apply svA | apply tupA | apply lcA | apply lcS | apply svC | apply liC | apply lbC | apply lsC | apply vIc | apply vBc | apply vSc | apply vLc | apply mapC | apply mIc | apply mOc | apply mSc | apply mLc | apply Hc_l5Free_sLa | apply Ec_l5Free_sLa | apply Sc_l5Free_sLa | apply EW0c_l5Free_sLa | apply c_sHas | apply c_l2Ints | apply c_l5Names)
  all_goals (try simp only [std] at *)
  all_goals (try (first | with_reducible rfl | omega | assumption | (refine (decide_eq_true ?_).symm; assumption) | (refine (decide_eq_false ?_).symm; assumption) | (refine rowGet ?_; (first | omega | (simp only [std]; omega) | grind)) | (refine getC ?_ rfl; (first | omega | (simp only [std]; omega) | grind)) | exact look_mI | exact look_mO | exact look_mO1 | exact look_mS | exact look_mL | exact upd_mI | exact upd_mO | exact del_mO | exact upd_mS | exact take_mL | (refine upd_mL ?_; grind) | (refine fill_step ?_ ?_; (first | omega | (simp only [std]; omega) | grind); (first | rfl | exact (Row.eq _).trans rfl)) | (refine fill_init ?_; (first | rfl | exact (Row.eq _).trans rfl)) | grind [fre0, addU, snocI, snocS, rowSnoc]))
theorem c_l5Free (c : Core) : ∀ (b : List Int) (S : List Int) (h : b.length + S.length + wC c + 1 ≤ 2147483647), P_c_l5Free c b S := Core.ind (P := fun c => ∀ (b : List Int) (S : List Int) (h : b.length + S.length + wC c + 1 ≤ 2147483647), P_c_l5Free c b S) (fun c ih b S h => c_l5Free_s c b S h ih) c

abbrev P_c_sFree (c : Core) : Prop := CallOK Try.prog 24 [] [coreA c] [.arr true 1 ((fre c [] []).map intC)] (.sv (.one (.ref 0)))
theorem run_c_sFree (c : Core) : aexec Try.prog (Option.getD (Func.body Try.f24) Code.skip) (entry [] [coreA c] 6) [Orc.call [Mode.rd, Mode.rd, Mode.own true 1] [Ob.dead, Ob.arr
 true 1 (List.map intC (fre c [] []))] (AV.sv (SV.one (AC.ref 1))), Orc.fin [3]] (finK Try.prog [ResultVar.tmp 2] [Ob.arr true 1 (List.map intC (fre c [] []))] (AV.sv (SV.one
 (AC.ref 0)))) = (P_c_l5Free c [] [] ∧ ObsEq [Ob.arr true 1 (List.map intC (fre c [] []))] [Ob.arr true 1 (List.map intC (fre c [] []))] ∧ AV.sv (SV.one (AC.ref 0)) = AV.sv (SV.one
 (AC.ref 0))) := by kernel_rfl
theorem c_sFree (c : Core) (h : wC c ≤ 2147483600)  : P_c_sFree c := by
  refine CallOK.ofRun wide (run_c_sFree c) Try.call24 Try.func24 rfl rfl rfl ?_
  with_reducible repeat' (first | apply And.intro | exact flatI | exact flatS | exact rowLens | (intro; skip) | apply obsN | apply obsC | apply obA | apply obM | apply obB | apply svA | apply tupA | apply lcA | apply lcS | apply svC | apply liC | apply lbC | apply lsC | apply vIc | apply vBc | apply vSc | apply vLc | apply mapC | apply mIc | apply mOc | apply mSc | apply mLc | apply c_l5Free)
  all_goals (try simp only [std] at *)
  all_goals (try (first | with_reducible rfl | omega | assumption | (refine (decide_eq_true ?_).symm; assumption) | (refine (decide_eq_false ?_).symm; assumption) | (refine rowGet ?_; (first | omega | (simp only [std]; omega) | grind)) | (refine getC ?_ rfl; (first | omega | (simp only [std]; omega) | grind)) | exact look_mI | exact look_mO | exact look_mO1 | exact look_mS | exact look_mL | exact upd_mI | exact upd_mO | exact del_mO | exact upd_mS | exact take_mL | (refine upd_mL ?_; grind) | (refine fill_step ?_ ?_; (first | omega | (simp only [std]; omega) | grind); (first | rfl | exact (Row.eq _).trans rfl)) | (refine fill_init ?_; (first | rfl | exact (Row.eq _).trans rfl)) | grind [snocI, snocS, rowSnoc]))

abbrev P_c_iFree (c : Core) : Prop := CallOK Try.prog 26 [] [coreA c] [.arr true 1 ((fre c [] []).map intC)] (.sv (.one (.ref 0)))
theorem run_c_iFree (c : Core) : aexec Try.prog (Option.getD (Func.body Try.f26) Code.skip) (entry [] [coreA c] 9) [Orc.mkmap kI, Orc.ghost (Ghost.nilbox 1 0 true 1), Orc.ghost
 (Ghost.nilmbox 1 1 kI), Orc.call [Mode.rd, Mode.map, Mode.ptr] [Ob.map false kI (mI (cntI [])), Ob.box [AC.ref 4, AC.mref 5], Ob.dead, Ob.dead, Ob.arr true 1 (List.map intC (fre c
 [] [])), Ob.map (decide (fre c [] [] = [])) kI (mI (memI (fre c [] [])))] (AV.tup []), Orc.fin [9]] (finK Try.prog [ResultVar.tmp 2] [Ob.arr true 1 (List.map intC (fre c [] []))]
 (AV.sv (SV.one (AC.ref 0)))) = (P_c_freeIn c [] [] ∧ ObsEq [Ob.arr true 1 (List.map intC (fre c [] []))] [Ob.arr true 1 (List.map intC (fre c [] []))] ∧ AV.sv (SV.one (AC.ref 0))
 = AV.sv (SV.one (AC.ref 0))) := by kernel_rfl
theorem c_iFree (c : Core) (h : wC c ≤ 2147483600)  : P_c_iFree c := by
  refine CallOK.ofRun wide (run_c_iFree c) Try.call26 Try.func26 rfl rfl rfl ?_
  with_reducible repeat' (first | apply And.intro | exact flatI | exact flatS | exact rowLens | (intro; skip) | apply obsN | apply obsC | apply obA | apply obM | apply obB | apply svA | apply tupA | apply lcA | apply lcS | apply svC | apply liC | apply lbC | apply lsC | apply vIc | apply vBc | apply vSc | apply vLc | apply mapC | apply mIc | apply mOc | apply mSc | apply mLc | apply c_freeIn)
  all_goals (try simp only [std] at *)
  all_goals (try (first | with_reducible rfl | omega | assumption | (refine (decide_eq_true ?_).symm; assumption) | (refine (decide_eq_false ?_).symm; assumption) | (refine rowGet ?_; (first | omega | (simp only [std]; omega) | grind)) | (refine getC ?_ rfl; (first | omega | (simp only [std]; omega) | grind)) | exact look_mI | exact look_mO | exact look_mO1 | exact look_mS | exact look_mL | exact upd_mI | exact upd_mO | exact del_mO | exact upd_mS | exact take_mL | (refine upd_mL ?_; grind) | (refine fill_step ?_ ?_; (first | omega | (simp only [std]; omega) | grind); (first | rfl | exact (Row.eq _).trans rfl)) | (refine fill_init ?_; (first | rfl | exact (Row.eq _).trans rfl)) | grind [snocI, snocS, rowSnoc]))

mutual
def box : Core → List Int → List Int
  | ⟨k, n, p, _, l⟩, o => boxs l (if k = 4 then addU o n else if k = 9 then p.foldl addU o else o)
def boxs : List Core → List Int → List Int
  | [], o => o
  | x :: r, o => boxs r (box x o)
end
theorem boxs_eq : ∀ (l : List Core) (o : List Int), boxs l o = l.foldl (fun o x => box x o) o
  | [], _ => by rw [boxs]; rfl
  | x :: r, o => by rw [boxs, boxs_eq r]; rfl
def box0 (c : Core) (o : List Int) : List Int := if c.kind = 4 then addU o c.number else if c.kind = 9 then c.params.foldl addU o else o
theorem box_eq (c : Core) (o : List Int) : box c o = c.kids.foldl (fun o x => box x o) (box0 c o) := by cases c; simp only [box, boxs_eq, box0]
theorem box0_len (c : Core) (o : List Int) : (box0 c o).length ≤ o.length + 1 + c.params.length := by
  have h := foldl_len addU (fun _ => 0) c.params (fun y _ o => addU_len o y) o
  rw [sumBy_zero] at h
  unfold box0; split
  · have := addU_len o c.number; omega
  · split <;> omega
theorem box_len : ∀ c o, (box c o).length ≤ o.length + 1 + wC c := by
  refine Core.ind fun c ih o => ?_
  rw [box_eq, wC_eq]
  have h1 := foldl_len (fun o x => box x o) wC c.kids ih (box0 c o)
  have h2 := box0_len c o
  omega

abbrev P_c_boxedIn (c : Core) (S : List Int) : Prop := CallOK Try.prog 117 [.box [.ref 1, .mref 2], .arr true 1 (S.map intC), .map (decide (S = [])) kI (mI (memI S))] [coreA c, .one (.ptr 0 0)] [.box [.ref 3, .mref 4], .dead, .dead, .arr true 1 ((box c S).map intC), .map (decide (box c S = [])) kI (mI (memI (box c S)))] (.tup [])
def Tc_boxedIn_sLb (c : Core) (S : List Int) (x0 : SV) (x1 : Ob) (x2 : Ob) : St := St.mk (regsOf 40 [(1, AV.sv (SV.one (AC.ptr 0 0))), (30, AV.sv (ll (List.map coreC (Core.kids
 c)))), (31, AV.sv (li (↑(List.length (List.map coreC (Core.kids c))) : Int))), (32, AV.sv x0)]) [Ob.box [AC.ref 3, AC.mref 4], Ob.dead, Ob.dead, x1, x2] 3 
def Lc_boxedIn_sLb (c : Core) (S : List Int) (k : Nat) : St := Tc_boxedIn_sLb c S (li (↑k : Int)) (Ob.arr true 1 (List.map intC (List.foldl (fun o x => box x o) (box0 c S)
 (List.take k (Core.kids c))))) (Ob.map (decide (List.foldl (fun o x => box x o) (box0 c S) (List.take k (Core.kids c)) = [])) kI (mI (memI (List.foldl (fun o x => box x o) (box0 c
 S) (List.take k (Core.kids c)))))) 
def Ic_boxedIn_sLb (c : Core) (S : List Int) : Nat → St → Prop := Head (Lc_boxedIn_sLb c S) (fun k => k ≤ List.length (Core.kids c) ∧ List.length (Core.kids c) ≤
 9223372036854775807) fun k => List.length (Core.kids c) - k 
def W0c_boxedIn_sLb (c : Core) (S : List Int) (x0 : Ob) (x1 : Ob) : St := St.mk (regsOf 40 []) [Ob.box [AC.ref 3, AC.mref 4], Ob.dead, Ob.dead, x0, x1] 3 
def Yc_boxedIn_sLb (c : Core) (S : List Int) : List (Prop × AEx × St) := [(True, AEx.exit 3, W0c_boxedIn_sLb c S (Ob.arr true 1 (List.map intC (box c S))) (Ob.map (decide (box c S
 = [])) kI (mI (memI (box c S)))))]
theorem Hc_boxedIn_sLb {c : Core} {S : List Int} {k : Nat} {m : Nat} (h : (fun k => k ≤ List.length (Core.kids c) ∧ List.length (Core.kids c) ≤ 9223372036854775807) k) (hm : (fun k
 => List.length (Core.kids c) - k) k = m) : Ic_boxedIn_sLb c S m (Lc_boxedIn_sLb c S k) := hm ▸ Head.mk h
theorem Ec_boxedIn_sLb {c : Core} {S : List Int} {k : Nat} {x0 : SV} {x1 : Ob} {x2 : Ob} (h0 : x0 = (li (↑k : Int))) (h1 : x1 = (Ob.arr true 1 (List.map intC (List.foldl (fun o x
 => box x o) (box0 c S) (List.take k (Core.kids c)))))) (h2 : x2 = (Ob.map (decide (List.foldl (fun o x => box x o) (box0 c S) (List.take k (Core.kids c)) = [])) kI (mI (memI
 (List.foldl (fun o x => box x o) (box0 c S) (List.take k (Core.kids c))))))) : Tc_boxedIn_sLb c S x0 x1 x2 = Lc_boxedIn_sLb c S k := by
  rw [h0, h1, h2]
  rfl
theorem EW0c_boxedIn_sLb {c : Core} {S : List Int} {x0 y0 : Ob} {x1 y1 : Ob} (h0 : x0 = y0) (h1 : x1 = y1) : W0c_boxedIn_sLb c S x0 x1 = W0c_boxedIn_sLb c S y0 y1 := by rw [h0, h1]
theorem run_c_boxedIn_sLb (c : Core) (S : List Int) (k : Nat) : aexec Try.prog (loopAt Try.f117 1) (Lc_boxedIn_sLb c S k) [Orc.br [Orc.cells (coreF (List.getD (Core.kids c) k
 default)), Orc.call [Mode.rd, Mode.ptr] [Ob.box [AC.ref 3, AC.mref 4], Ob.dead, Ob.dead, Ob.arr true 1 (List.map intC (box (List.getD (Core.kids c) k default) (List.foldl (fun o x
 => box x o) (box0 c S) (List.take k (Core.kids c))))), Ob.map (decide (box (List.getD (Core.kids c) k default) (List.foldl (fun o x => box x o) (box0 c S) (List.take k (Core.kids
 c))) = [])) kI (mI (memI (box (List.getD (Core.kids c) k default) (List.foldl (fun o x => box x o) (box0 c S) (List.take k (Core.kids c))))))] (AV.tup []), Orc.ghost (Ghost.sel
 [0, 1, 2, 9, 10] [1, 30, 31, 32]), Orc.goto (List.length (Core.kids c) - (k + 1)) (Lc_boxedIn_sLb c S (k + 1))] [Orc.ghost (Ghost.sel [0, 1, 2, 3, 4] []), Orc.out 0]] (loopK
 (Ic_boxedIn_sLb c S) (Yc_boxedIn_sLb c S) (List.length (Core.kids c) - k)) = ((decide ((↑k : Int) < (↑(List.length (List.map coreC (Core.kids c))) : Int)) = true → (0 ≤ (↑k : Int)
 ∧ (List.map coreC (Core.kids c))[Int.toNat (↑k : Int)]? = some (coreF (List.getD (Core.kids c) k default))) ∧ P_c_boxedIn (List.getD (Core.kids c) k default) (List.foldl (fun o x
 => box x o) (box0 c S) (List.take k (Core.kids c))) ∧ rng IntKind.i64 ((↑k : Int) + 1) ∧ List.length (Core.kids c) - (k + 1) < List.length (Core.kids c) - k ∧ Tc_boxedIn_sLb c S
 (li ((↑k : Int) + 1)) (Ob.arr true 1 (List.map intC (box (List.getD (Core.kids c) k default) (List.foldl (fun o x => box x o) (box0 c S) (List.take k (Core.kids c)))))) (Ob.map
 (decide (box (List.getD (Core.kids c) k default) (List.foldl (fun o x => box x o) (box0 c S) (List.take k (Core.kids c))) = [])) kI (mI (memI (box (List.getD (Core.kids c) k
 default) (List.foldl (fun o x => box x o) (box0 c S) (List.take k (Core.kids c))))))) = Lc_boxedIn_sLb c S (k + 1) ∧ Ic_boxedIn_sLb c S (List.length (Core.kids c) - (k + 1))
 (Lc_boxedIn_sLb c S (k + 1))) ∧ (decide ((↑k : Int) < (↑(List.length (List.map coreC (Core.kids c))) : Int)) = false → True ∧ W0c_boxedIn_sLb c S (Ob.arr true 1 (List.map intC
 (List.foldl (fun o x => box x o) (box0 c S) (List.take k (Core.kids c))))) (Ob.map (decide (List.foldl (fun o x => box x o) (box0 c S) (List.take k (Core.kids c)) = [])) kI (mI
 (memI (List.foldl (fun o x => box x o) (box0 c S) (List.take k (Core.kids c)))))) = W0c_boxedIn_sLb c S (Ob.arr true 1 (List.map intC (box c S))) (Ob.map (decide (box c S = []))
 kI (mI (memI (box c S)))))) := by kernel_rfl
def Tc_boxedIn_sLa (c : Core) (S : List Int) (x0 : SV) (x1 : Ob) (x2 : Ob) : St := St.mk (regsOf 40 [(1, AV.sv (SV.one (AC.ptr 0 0))), (2, AV.sv (SV.one (AC.ptr 3 0))), (19, AV.sv
 (ll (List.map intC (Core.params c)))), (20, AV.sv (li (↑(List.length (List.map intC (Core.params c))) : Int))), (21, AV.sv x0)]) [Ob.box [AC.ref 4, AC.mref 5], Ob.dead, Ob.dead,
 Ob.box (vals (coreF c)), x1, x2] 3 
def Lc_boxedIn_sLa (c : Core) (S : List Int) (k : Nat) : St := Tc_boxedIn_sLa c S (li (↑k : Int)) (Ob.arr true 1 (List.map intC (List.foldl addU S (List.take k (Core.params c)))))
 (Ob.map (decide (List.foldl addU S (List.take k (Core.params c)) = [])) kI (mI (memI (List.foldl addU S (List.take k (Core.params c)))))) 
def Ic_boxedIn_sLa (c : Core) (S : List Int) : Nat → St → Prop := Head (Lc_boxedIn_sLa c S) (fun k => k ≤ List.length (Core.params c) ∧ List.length (Core.params c) ≤
 9223372036854775807) fun k => List.length (Core.params c) - k 
def W0c_boxedIn_sLa (c : Core) (S : List Int) (x0 : Ob) (x1 : Ob) : St := St.mk (regsOf 40 [(1, AV.sv (SV.one (AC.ptr 0 0))), (2, AV.sv (SV.one (AC.ptr 3 0)))]) [Ob.box [AC.ref 4,
 AC.mref 5], Ob.dead, Ob.dead, Ob.box (vals (coreF c)), x0, x1] 3 
def Yc_boxedIn_sLa (c : Core) (S : List Int) : List (Prop × AEx × St) := [(True, AEx.exit 1, W0c_boxedIn_sLa c S (Ob.arr true 1 (List.map intC (List.foldl addU S (Core.params c))))
 (Ob.map (decide (List.foldl addU S (Core.params c) = [])) kI (mI (memI (List.foldl addU S (Core.params c))))))]
theorem Hc_boxedIn_sLa {c : Core} {S : List Int} {k : Nat} {m : Nat} (h : (fun k => k ≤ List.length (Core.params c) ∧ List.length (Core.params c) ≤ 9223372036854775807) k) (hm :
 (fun k => List.length (Core.params c) - k) k = m) : Ic_boxedIn_sLa c S m (Lc_boxedIn_sLa c S k) := hm ▸ Head.mk h
theorem Ec_boxedIn_sLa {c : Core} {S : List Int} {k : Nat} {x0 : SV} {x1 : Ob} {x2 : Ob} (h0 : x0 = (li (↑k : Int))) (h1 : x1 = (Ob.arr true 1 (List.map intC (List.foldl addU S
 (List.take k (Core.params c)))))) (h2 : x2 = (Ob.map (decide (List.foldl addU S (List.take k (Core.params c)) = [])) kI (mI (memI (List.foldl addU S (List.take k (Core.params
 c))))))) : Tc_boxedIn_sLa c S x0 x1 x2 = Lc_boxedIn_sLa c S k := by
  rw [h0, h1, h2]
  rfl
theorem EW0c_boxedIn_sLa {c : Core} {S : List Int} {x0 y0 : Ob} {x1 y1 : Ob} (h0 : x0 = y0) (h1 : x1 = y1) : W0c_boxedIn_sLa c S x0 x1 = W0c_boxedIn_sLa c S y0 y1 := by rw [h0, h1]
theorem run_c_boxedIn_sLa (c : Core) (S : List Int) (k : Nat) : aexec Try.prog (loopAt Try.f117 0) (Lc_boxedIn_sLa c S k) [Orc.br [Orc.cells (intC (List.getD (Core.params c) k
 default)), Orc.call [Mode.ptr, Mode.rd] [Ob.box [AC.ref 3, AC.mref 4], Ob.dead, Ob.dead, Ob.arr true 1 (List.map intC (addU (List.foldl addU S (List.take k (Core.params c)))
 (List.getD (Core.params c) k 0))), Ob.map (decide (addU (List.foldl addU S (List.take k (Core.params c))) (List.getD (Core.params c) k 0) = [])) kI (mI (memI (addU (List.foldl
 addU S (List.take k (Core.params c))) (List.getD (Core.params c) k 0))))] (AV.tup []), Orc.ghost (Ghost.sel [0, 1, 2, 3, 9, 10] [1, 2, 19, 20, 21]), Orc.goto (List.length
 (Core.params c) - (k + 1)) (Lc_boxedIn_sLa c S (k + 1))] [Orc.ghost (Ghost.sel [0, 1, 2, 3, 4, 5] [1, 2]), Orc.out 0]] (loopK (Ic_boxedIn_sLa c S) (Yc_boxedIn_sLa c S)
 (List.length (Core.params c) - k)) = ((decide ((↑k : Int) < (↑(List.length (List.map intC (Core.params c))) : Int)) = true → (0 ≤ (↑k : Int) ∧ (List.map intC (Core.params
 c))[Int.toNat (↑k : Int)]? = some [cI (List.getD (Core.params c) k 0)]) ∧ P_c_addNum (List.foldl addU S (List.take k (Core.params c))) (List.getD (Core.params c) k 0) ∧ rng
 IntKind.i64 ((↑k : Int) + 1) ∧ List.length (Core.params c) - (k + 1) < List.length (Core.params c) - k ∧ Tc_boxedIn_sLa c S (li ((↑k : Int) + 1)) (Ob.arr true 1 (List.map intC
 (addU (List.foldl addU S (List.take k (Core.params c))) (List.getD (Core.params c) k 0)))) (Ob.map (decide (addU (List.foldl addU S (List.take k (Core.params c))) (List.getD
 (Core.params c) k 0) = [])) kI (mI (memI (addU (List.foldl addU S (List.take k (Core.params c))) (List.getD (Core.params c) k 0))))) = Lc_boxedIn_sLa c S (k + 1) ∧ Ic_boxedIn_sLa
 c S (List.length (Core.params c) - (k + 1)) (Lc_boxedIn_sLa c S (k + 1))) ∧ (decide ((↑k : Int) < (↑(List.length (List.map intC (Core.params c))) : Int)) = false → True ∧
 W0c_boxedIn_sLa c S (Ob.arr true 1 (List.map intC (List.foldl addU S (List.take k (Core.params c))))) (Ob.map (decide (List.foldl addU S (List.take k (Core.params c)) = [])) kI
 (mI (memI (List.foldl addU S (List.take k (Core.params c)))))) = W0c_boxedIn_sLa c S (Ob.arr true 1 (List.map intC (List.foldl addU S (Core.params c)))) (Ob.map (decide
 (List.foldl addU S (Core.params c) = [])) kI (mI (memI (List.foldl addU S (Core.params c))))))) := by kernel_rfl
theorem Sc_boxedIn_sLa (c : Core) (S : List Int) (h : List.length S + wC c + 1 ≤ 2147483647) (ih : ∀ (z : Core), z ∈ Core.kids c → ∀ (S : List Int), List.length S + wC z + 1 ≤
 2147483647 → P_c_boxedIn z S)  : LoopSem Try.prog (loopAt Try.f117 0) (Ic_boxedIn_sLa c S) (Yc_boxedIn_sLa c S) := by
  refine LoopSem.ofHead wide fun k h => ⟨_, _, run_c_boxedIn_sLa c S k, ?_⟩
  have g1 := foldl_len addU (fun _ => 0) (c.params.take k) (fun y _ o => addU_len o y) S
  have g4 := wC_eq c
  with_reducible repeat' (first | apply And.intro | exact flatI | exact flatS | exact rowLens | exact ih | (intro; skip) | apply obsN | apply obsC | apply obA | apply obM | apply obB | apply svA | apply tupA | apply lcA | apply lcS | apply svC | apply liC | apply lbC | apply lsC | apply vIc | apply vBc | apply vSc | apply vLc | apply mapC | apply mIc | apply mOc | apply mSc | apply mLc | apply Hc_boxedIn_sLb | apply Ec_boxedIn_sLb | apply Hc_boxedIn_sLa | apply Ec_boxedIn_sLa | apply EW0c_boxedIn_sLb | apply EW0c_boxedIn_sLa | apply c_addNum)
  all_goals (try simp only [std] at *)
  all_goals (try (first | with_reducible rfl | omega | assumption | (refine (decide_eq_true ?_).symm; assumption) | (refine (decide_eq_false ?_).symm; assumption) | (refine rowGet ?_; (first | omega | (simp only [std]; omega) | grind)) | (refine getC ?_ rfl; (first | omega | (simp only [std]; omega) | grind)) | exact look_mI | exact look_mO | exact look_mO1 | exact look_mS | exact look_mL | exact upd_mI | exact upd_mO | exact del_mO | exact upd_mS | exact take_mL | (refine upd_mL ?_; grind) | (refine fill_step ?_ ?_; (first | omega | (simp only [std]; omega) | grind); (first | rfl | exact (Row.eq _).trans rfl)) | (refine fill_init ?_; (first | rfl | exact (Row.eq _).trans rfl)) | grind [foldl_step, sumBy_zero, snocI, snocS, rowSnoc]))
theorem Sc_boxedIn_sLb (c : Core) (S : List Int) (h : List.length S + wC c + 1 ≤ 2147483647) (ih : ∀ (z : Core), z ∈ Core.kids c → ∀ (S : List Int), List.length S + wC z + 1 ≤
 2147483647 → P_c_boxedIn z S)  : LoopSem Try.prog (loopAt Try.f117 1) (Ic_boxedIn_sLb c S) (Yc_boxedIn_sLb c S) := by
  refine LoopSem.ofHead wide fun k h => ⟨_, _, run_c_boxedIn_sLb c S k, ?_⟩
  have g1 := foldl_len (fun o x => box x o) wC (c.kids.take k) (fun y _ o => box_len y o) (box0 c S)
  have g2 := box0_len c S
  have g3 := sumBy_takeLe wC c.kids (k + 1)
  have g4 := wC_eq c
  with_reducible repeat' (first | apply And.intro | exact flatI | exact flatS | exact rowLens | exact ih | (intro; skip) | apply obsN | apply obsC | apply obA | apply obM | apply obB | apply svA | apply tupA | apply lcA | apply lcS | apply svC | apply liC | apply lbC | apply lsC | apply vIc | apply vBc | apply vSc | apply vLc | apply mapC | apply mIc | apply mOc | apply mSc | apply mLc | apply Hc_boxedIn_sLb | apply Ec_boxedIn_sLb | apply Hc_boxedIn_sLa | apply Ec_boxedIn_sLa | apply Sc_boxedIn_sLa | apply EW0c_boxedIn_sLb | apply EW0c_boxedIn_sLa | apply c_addNum | apply ih)
  all_goals (try simp only [std] at *)
  all_goals (try (first | with_reducible rfl | omega | assumption | (refine (decide_eq_true ?_).symm; assumption) | (refine (decide_eq_false ?_).symm; assumption) | (refine rowGet ?_; (first | omega | (simp only [std]; omega) | grind)) | (refine getC ?_ rfl; (first | omega | (simp only [std]; omega) | grind)) | exact look_mI | exact look_mO | exact look_mO1 | exact look_mS | exact look_mL | exact upd_mI | exact upd_mO | exact del_mO | exact upd_mS | exact take_mL | (refine upd_mL ?_; grind) | (refine fill_step ?_ ?_; (first | omega | (simp only [std]; omega) | grind); (first | rfl | exact (Row.eq _).trans rfl)) | (refine fill_init ?_; (first | rfl | exact (Row.eq _).trans rfl)) | grind [box_eq, foldl_step, getD_mem', sumBy_step, snocI, snocS, rowSnoc]))
abbrev a1_c_boxedIn_s (c : Core) (S : List Int) := [Ob.box [AC.ref 3, AC.mref 4], Ob.dead, Ob.dead, Ob.arr true 1 (List.map intC (box c S)), Ob.map (decide (box c S = [])) kI (mI
 (memI (box c S)))]
abbrev a2_c_boxedIn_s (c : Core) (S : List Int) := [(True, AEx.exit 3, W0c_boxedIn_sLb c S (Ob.arr true 1 (List.map intC (box c S))) (Ob.map (decide (box c S = [])) kI (mI (memI
 (box c S)))), [Orc.fin [3, 4]])]
theorem run_c_boxedIn_s (c : Core) (S : List Int) : aexec Try.prog (Option.getD (Func.body Try.f117) Code.skip) (entry [Ob.box [AC.ref 1, AC.mref 2], Ob.arr true 1 (List.map intC
 S), Ob.map (decide (S = [])) kI (mI (memI S))] [coreA c, SV.one (AC.ptr 0 0)] 40) [Orc.br [Orc.call [Mode.ptr, Mode.rd] [Ob.box [AC.ref 3, AC.mref 4], Ob.dead, Ob.dead, Ob.arr
 true 1 (List.map intC (addU S (Core.number c))), Ob.map (decide (addU S (Core.number c) = [])) kI (mI (memI (addU S (Core.number c))))] (AV.tup []), Orc.ghost (Ghost.sel [0, 1, 2,
 7, 8] [1, 30, 31, 32]), Orc.loop (List.length (Core.kids c) - 0) (Lc_boxedIn_sLb c S 0) (Ic_boxedIn_sLb c S) (a2_c_boxedIn_s c S)] [Orc.br [Orc.ghost (Ghost.move 1), Orc.ghost
 (Ghost.move 2), Orc.ghost (Ghost.sel [0, 1, 2, 3, 4, 5] [1, 2, 19, 20, 21]), Orc.loop (List.length (Core.params c) - 0) (Lc_boxedIn_sLa c S 0) (Ic_boxedIn_sLa c S) [(True,
 AEx.exit 1, W0c_boxedIn_sLa c S (Ob.arr true 1 (List.map intC (List.foldl addU S (Core.params c)))) (Ob.map (decide (List.foldl addU S (Core.params c) = [])) kI (mI (memI
 (List.foldl addU S (Core.params c))))), [Orc.ghost (Ghost.sel [0, 1, 2, 4, 5] [1, 30, 31, 32]), Orc.loop (List.length (Core.kids c) - 0) (Lc_boxedIn_sLb c S 0) (Ic_boxedIn_sLb c
 S) (a2_c_boxedIn_s c S)])]] [Orc.ghost (Ghost.move 1), Orc.ghost (Ghost.move 2), Orc.ghost (Ghost.sel [0, 1, 2, 4, 5] [1, 30, 31, 32]), Orc.loop (List.length (Core.kids c) - 0)
 (Lc_boxedIn_sLb c S 0) (Ic_boxedIn_sLb c S) (a2_c_boxedIn_s c S)]]] (finK Try.prog [] [Ob.box [AC.ref 3, AC.mref 4], Ob.dead, Ob.dead, Ob.arr true 1 (List.map intC (box c S)),
 Ob.map (decide (box c S = [])) kI (mI (memI (box c S)))] (AV.tup [])) = ((decide (Core.kind c = 4) = true → P_c_addNum S (Core.number c) ∧ (List.length (List.map coreC (Core.kids
 c)) ≤ 9223372036854775807 → Tc_boxedIn_sLb c S (li 0) (Ob.arr true 1 (List.map intC (addU S (Core.number c)))) (Ob.map (decide (addU S (Core.number c) = [])) kI (mI (memI (addU S
 (Core.number c))))) = Lc_boxedIn_sLb c S 0 ∧ Ic_boxedIn_sLb c S (List.length (Core.kids c) - 0) (Lc_boxedIn_sLb c S 0) ∧ LoopSem Try.prog (loopAt Try.f117 1) (Ic_boxedIn_sLb c S)
 (Yc_boxedIn_sLb c S) ∧ (True → ObsEq (a1_c_boxedIn_s c S) (a1_c_boxedIn_s c S) ∧ AV.tup [] = AV.tup []) ∧ True)) ∧ (decide (Core.kind c = 4) = false → (decide (Core.kind c = 9) =
 true → List.length (List.map intC (Core.params c)) ≤ 9223372036854775807 → Tc_boxedIn_sLa c S (li 0) (Ob.arr true 1 (List.map intC S)) (Ob.map (decide (S = [])) kI (mI (memI S)))
 = Lc_boxedIn_sLa c S 0 ∧ Ic_boxedIn_sLa c S (List.length (Core.params c) - 0) (Lc_boxedIn_sLa c S 0) ∧ LoopSem Try.prog (loopAt Try.f117 0) (Ic_boxedIn_sLa c S) (Yc_boxedIn_sLa c
 S) ∧ (True → List.length (List.map coreC (Core.kids c)) ≤ 9223372036854775807 → Tc_boxedIn_sLb c S (li 0) (Ob.arr true 1 (List.map intC (List.foldl addU S (Core.params c))))
 (Ob.map (decide (List.foldl addU S (Core.params c) = [])) kI (mI (memI (List.foldl addU S (Core.params c))))) = Lc_boxedIn_sLb c S 0 ∧ Ic_boxedIn_sLb c S (List.length (Core.kids
 c) - 0) (Lc_boxedIn_sLb c S 0) ∧ LoopSem Try.prog (loopAt Try.f117 1) (Ic_boxedIn_sLb c S) (Yc_boxedIn_sLb c S) ∧ (True → ObsEq (a1_c_boxedIn_s c S) (a1_c_boxedIn_s c S) ∧ AV.tup
 [] = AV.tup []) ∧ True) ∧ True) ∧ (decide (Core.kind c = 9) = false → List.length (List.map coreC (Core.kids c)) ≤ 9223372036854775807 → Tc_boxedIn_sLb c S (li 0) (Ob.arr true 1
 (List.map intC S)) (Ob.map (decide (S = [])) kI (mI (memI S))) = Lc_boxedIn_sLb c S 0 ∧ Ic_boxedIn_sLb c S (List.length (Core.kids c) - 0) (Lc_boxedIn_sLb c S 0) ∧ LoopSem
 Try.prog (loopAt Try.f117 1) (Ic_boxedIn_sLb c S) (Yc_boxedIn_sLb c S) ∧ (True → ObsEq (a1_c_boxedIn_s c S) (a1_c_boxedIn_s c S) ∧ AV.tup [] = AV.tup []) ∧ True))) := by
 kernel_rfl
theorem c_boxedIn_s (c : Core) (S : List Int) (h : S.length + wC c + 1 ≤ 2147483647) (ih : ∀ z ∈ c.kids, ∀ (S : List Int) (h : S.length + wC z + 1 ≤ 2147483647), P_c_boxedIn z S) 
 : P_c_boxedIn c S := by
  refine CallOK.ofRun wide (run_c_boxedIn_s c S) Try.call117 Try.func117 rfl rfl rfl ?_
  try delta a1_c_boxedIn_s a2_c_boxedIn_s
  have g4 := wC_eq c
  with_reducible repeat' (first | apply And.intro | exact flatI | exact flatS | exact rowLens | exact ih | (intro; skip) | apply obsN | apply obsC | apply obA | apply obM | apply obB | apply svA | apply tupA | apply lcA | apply lcS | apply svC | apply liC | apply lbC | apply lsC | apply vIc | apply vBc | apply vSc | apply vLc | apply mapC | apply mIc | apply mOc | apply mSc | apply mLc | apply Hc_boxedIn_sLb | apply Ec_boxedIn_sLb | apply Sc_boxedIn_sLb | apply Hc_boxedIn_sLa | apply Ec_boxedIn_sLa | apply Sc_boxedIn_sLa | apply EW0c_boxedIn_sLb | apply EW0c_boxedIn_sLa | apply c_addNum)
  all_goals (try simp only [std] at *)
  all_goals (try (first | with_reducible rfl | omega | assumption | (refine (decide_eq_true ?_).symm; assumption) | (refine (decide_eq_false ?_).symm; assumption) | (refine rowGet ?_; (first | omega | (simp only [std]; omega) | grind)) | (refine getC ?_ rfl; (first | omega | (simp only [std]; omega) | grind)) | exact look_mI | exact look_mO | exact look_mO1 | exact look_mS | exact look_mL | exact upd_mI | exact upd_mO | exact del_mO | exact upd_mS | exact take_mL | (refine upd_mL ?_; grind) | (refine fill_step ?_ ?_; (first | omega | (simp only [std]; omega) | grind); (first | rfl | exact (Row.eq _).trans rfl)) | (refine fill_init ?_; (first | rfl | exact (Row.eq _).trans rfl)) | grind [box0, snocI, snocS, rowSnoc]))
theorem c_boxedIn (c : Core) : ∀ (S : List Int) (h : S.length + wC c + 1 ≤ 2147483647), P_c_boxedIn c S := Core.ind (P := fun c => ∀ (S : List Int) (h : S.length + wC c + 1 ≤ 2147483647), P_c_boxedIn c S) (fun c ih S h => c_boxedIn_s c S h ih) c

abbrev P_c_l5Boxed (c : Core) (S : List Int) : Prop := CallOK Try.prog 116 [.arr true 1 (S.map intC)] [coreA c, .one (.ref 0)] [.dead, .arr true 1 ((box c S).map intC)] (.sv (.one (.ref 1)))
def Tc_l5Boxed_sLa (c : Core) (S : List Int) (x0 : SV) (x1 : Ob) : St := St.mk (regsOf 63 [(1, AV.sv (SV.one (AC.ref 1))), (2, AV.sv (SV.one (AC.ptr 2 0))), (5, AV.sv x0)])
 [Ob.dead, x1, Ob.box (vals (coreF c))] 1 
def Lc_l5Boxed_sLa (c : Core) (S : List Int) (k : Nat) : St := Tc_l5Boxed_sLa c S (li (↑k : Int)) (Ob.arr true 1 (List.map intC (if Core.kind c = 4 then addU S (Core.number c) else
 List.foldl addU S (List.take k (Core.params c))))) 
def Ic_l5Boxed_sLa (c : Core) (S : List Int) : Nat → St → Prop := Head (Lc_l5Boxed_sLa c S) (fun k => k ≤ List.length (Core.params c) ∧ List.length (Core.params c) ≤
 9223372036854775807 ∧ (Core.kind c ≠ 9 → k = 0)) fun k => List.length (Core.params c) - k 
def W0c_l5Boxed_sLa (c : Core) (S : List Int) (x0 : Ob) : St := St.mk (regsOf 63 [(1, AV.sv (SV.one (AC.ref 1))), (2, AV.sv (SV.one (AC.ptr 2 0)))]) [Ob.dead, x0, Ob.box (vals
 (coreF c))] 1 
def Yc_l5Boxed_sLa (c : Core) (S : List Int) : List (Prop × AEx × St) := [(True, AEx.exit 0, W0c_l5Boxed_sLa c S (Ob.arr true 1 (List.map intC (box0 c S))))]
theorem Hc_l5Boxed_sLa {c : Core} {S : List Int} {k : Nat} {m : Nat} (h : (fun k => k ≤ List.length (Core.params c) ∧ List.length (Core.params c) ≤ 9223372036854775807 ∧ (Core.kind
 c ≠ 9 → k = 0)) k) (hm : (fun k => List.length (Core.params c) - k) k = m) : Ic_l5Boxed_sLa c S m (Lc_l5Boxed_sLa c S k) := hm ▸ Head.mk h
theorem Ec_l5Boxed_sLa {c : Core} {S : List Int} {k : Nat} {x0 : SV} {x1 : Ob} (h0 : x0 = (li (↑k : Int))) (h1 : x1 = (Ob.arr true 1 (List.map intC (if Core.kind c = 4 then addU S
 (Core.number c) else List.foldl addU S (List.take k (Core.params c)))))) : Tc_l5Boxed_sLa c S x0 x1 = Lc_l5Boxed_sLa c S k := by
  rw [h0, h1]
  rfl
theorem EW0c_l5Boxed_sLa {c : Core} {S : List Int} {x0 y0 : Ob} (h0 : x0 = y0) : W0c_l5Boxed_sLa c S x0 = W0c_l5Boxed_sLa c S y0 := by rw [h0]
theorem run_c_l5Boxed_sLa (c : Core) (S : List Int) (k : Nat) : aexec Try.prog (loopAt Try.f116 0) (Lc_l5Boxed_sLa c S k) [Orc.br [Orc.br [Orc.cells (intC (List.getD (Core.params
 c) k default)), Orc.call [Mode.rd, Mode.rd] [] (AV.sv (lb (decide (List.getD (Core.params c) k 0 ∈ if Core.kind c = 4 then addU S (Core.number c) else List.foldl addU S (List.take
 k (Core.params c)))))), Orc.br [Orc.cells (intC (List.getD (Core.params c) k default)), Orc.ghost (Ghost.sel [0, 4, 2] [1, 2, 5]), Orc.goto (List.length (Core.params c) - (k + 1))
 (Lc_l5Boxed_sLa c S (k + 1))] [Orc.ghost (Ghost.sel [0, 1, 2] [1, 2, 5]), Orc.goto (List.length (Core.params c) - (k + 1)) (Lc_l5Boxed_sLa c S (k + 1))]] [Orc.ghost (Ghost.sel [0,
 1, 2] [1, 2]), Orc.out 0]] [Orc.bool false, Orc.ghost (Ghost.sel [0, 1, 2] [1, 2]), Orc.out 0]] (loopK (Ic_l5Boxed_sLa c S) (Yc_l5Boxed_sLa c S) (List.length (Core.params c) - k))
 = (List.length (List.map intC (Core.params c)) ≤ 9223372036854775807 → (decide ((↑k : Int) < (↑(List.length (List.map intC (Core.params c))) : Int)) = true → (decide (Core.kind c
 = 9) = true → (0 ≤ (↑k : Int) ∧ (List.map intC (Core.params c))[Int.toNat (↑k : Int)]? = some [cI (List.getD (Core.params c) k 0)]) ∧ P_c_sHas (if Core.kind c = 4 then addU S
 (Core.number c) else List.foldl addU S (List.take k (Core.params c))) (List.getD (Core.params c) k 0) ∧ ((!decide (List.getD (Core.params c) k 0 ∈ if Core.kind c = 4 then addU S
 (Core.number c) else List.foldl addU S (List.take k (Core.params c)))) = true → (0 ≤ (↑k : Int) ∧ (List.map intC (Core.params c))[Int.toNat (↑k : Int)]? = some [cI (List.getD
 (Core.params c) k 0)]) ∧ (List.length (List.map intC (if Core.kind c = 4 then addU S (Core.number c) else List.foldl addU S (List.take k (Core.params c)))) + 1) * 8 ≤
 140737488355328 ∧ rng IntKind.i64 ((↑k : Int) + 1) ∧ List.length (Core.params c) - (k + 1) < List.length (Core.params c) - k ∧ Tc_l5Boxed_sLa c S (li ((↑k : Int) + 1)) (Ob.arr
 true 1 (List.map intC (if Core.kind c = 4 then addU S (Core.number c) else List.foldl addU S (List.take k (Core.params c))) ++ [[cI (List.getD (Core.params c) k 0)]])) =
 Lc_l5Boxed_sLa c S (k + 1) ∧ Ic_l5Boxed_sLa c S (List.length (Core.params c) - (k + 1)) (Lc_l5Boxed_sLa c S (k + 1))) ∧ ((!decide (List.getD (Core.params c) k 0 ∈ if Core.kind c =
 4 then addU S (Core.number c) else List.foldl addU S (List.take k (Core.params c)))) = false → rng IntKind.i64 ((↑k : Int) + 1) ∧ List.length (Core.params c) - (k + 1) <
 List.length (Core.params c) - k ∧ Tc_l5Boxed_sLa c S (li ((↑k : Int) + 1)) (Ob.arr true 1 (List.map intC (if Core.kind c = 4 then addU S (Core.number c) else List.foldl addU S
 (List.take k (Core.params c))))) = Lc_l5Boxed_sLa c S (k + 1) ∧ Ic_l5Boxed_sLa c S (List.length (Core.params c) - (k + 1)) (Lc_l5Boxed_sLa c S (k + 1)))) ∧ (decide (Core.kind c =
 9) = false → True ∧ W0c_l5Boxed_sLa c S (Ob.arr true 1 (List.map intC (if Core.kind c = 4 then addU S (Core.number c) else List.foldl addU S (List.take k (Core.params c))))) =
 W0c_l5Boxed_sLa c S (Ob.arr true 1 (List.map intC (box0 c S))))) ∧ (decide ((↑k : Int) < (↑(List.length (List.map intC (Core.params c))) : Int)) = false → false = false ∧ True ∧
 W0c_l5Boxed_sLa c S (Ob.arr true 1 (List.map intC (if Core.kind c = 4 then addU S (Core.number c) else List.foldl addU S (List.take k (Core.params c))))) = W0c_l5Boxed_sLa c S
 (Ob.arr true 1 (List.map intC (box0 c S))))) := by kernel_rfl
def Tc_l5Boxed_sLb (c : Core) (S : List Int) (x0 : SV) (x1 : Ob) : St := St.mk (regsOf 63 [(1, AV.sv (SV.one (AC.ref 1))), (52, AV.sv (ll (List.map coreC (Core.kids c)))), (53,
 AV.sv (li (↑(List.length (List.map coreC (Core.kids c))) : Int))), (54, AV.sv x0)]) [Ob.dead, x1] 1 
def Lc_l5Boxed_sLb (c : Core) (S : List Int) (k : Nat) : St := Tc_l5Boxed_sLb c S (li (↑k : Int)) (Ob.arr true 1 (List.map intC (List.foldl (fun o x => box x o) (box0 c S)
 (List.take k (Core.kids c))))) 
def Ic_l5Boxed_sLb (c : Core) (S : List Int) : Nat → St → Prop := Head (Lc_l5Boxed_sLb c S) (fun k => k ≤ List.length (Core.kids c) ∧ List.length (Core.kids c) ≤
 9223372036854775807) fun k => List.length (Core.kids c) - k 
def W0c_l5Boxed_sLb (c : Core) (S : List Int) (x0 : Ob) : St := St.mk (regsOf 63 [(1, AV.sv (SV.one (AC.ref 1)))]) [Ob.dead, x0] 1 
def Yc_l5Boxed_sLb (c : Core) (S : List Int) : List (Prop × AEx × St) := [(True, AEx.exit 2, W0c_l5Boxed_sLb c S (Ob.arr true 1 (List.map intC (box c S))))]
theorem Hc_l5Boxed_sLb {c : Core} {S : List Int} {k : Nat} {m : Nat} (h : (fun k => k ≤ List.length (Core.kids c) ∧ List.length (Core.kids c) ≤ 9223372036854775807) k) (hm : (fun k
 => List.length (Core.kids c) - k) k = m) : Ic_l5Boxed_sLb c S m (Lc_l5Boxed_sLb c S k) := hm ▸ Head.mk h
theorem Ec_l5Boxed_sLb {c : Core} {S : List Int} {k : Nat} {x0 : SV} {x1 : Ob} (h0 : x0 = (li (↑k : Int))) (h1 : x1 = (Ob.arr true 1 (List.map intC (List.foldl (fun o x => box x o)
 (box0 c S) (List.take k (Core.kids c)))))) : Tc_l5Boxed_sLb c S x0 x1 = Lc_l5Boxed_sLb c S k := by
  rw [h0, h1]
  rfl
theorem EW0c_l5Boxed_sLb {c : Core} {S : List Int} {x0 y0 : Ob} (h0 : x0 = y0) : W0c_l5Boxed_sLb c S x0 = W0c_l5Boxed_sLb c S y0 := by rw [h0]
theorem run_c_l5Boxed_sLb (c : Core) (S : List Int) (k : Nat) : aexec Try.prog (loopAt Try.f116 1) (Lc_l5Boxed_sLb c S k) [Orc.br [Orc.cells (coreF (List.getD (Core.kids c) k
 default)), Orc.call [Mode.rd, Mode.own true 1] [Ob.dead, Ob.arr true 1 (List.map intC (box (List.getD (Core.kids c) k default) (List.foldl (fun o x => box x o) (box0 c S)
 (List.take k (Core.kids c)))))] (AV.sv (SV.one (AC.ref 1))), Orc.ghost (Ghost.sel [0, 4] [1, 52, 53, 54]), Orc.goto (List.length (Core.kids c) - (k + 1)) (Lc_l5Boxed_sLb c S (k +
 1))] [Orc.ghost (Ghost.sel [0, 1] [1]), Orc.out 0]] (loopK (Ic_l5Boxed_sLb c S) (Yc_l5Boxed_sLb c S) (List.length (Core.kids c) - k)) = ((decide ((↑k : Int) < (↑(List.length
 (List.map coreC (Core.kids c))) : Int)) = true → (0 ≤ (↑k : Int) ∧ (List.map coreC (Core.kids c))[Int.toNat (↑k : Int)]? = some (coreF (List.getD (Core.kids c) k default))) ∧
 P_c_l5Boxed (List.getD (Core.kids c) k default) (List.foldl (fun o x => box x o) (box0 c S) (List.take k (Core.kids c))) ∧ rng IntKind.i64 ((↑k : Int) + 1) ∧ List.length
 (Core.kids c) - (k + 1) < List.length (Core.kids c) - k ∧ Tc_l5Boxed_sLb c S (li ((↑k : Int) + 1)) (Ob.arr true 1 (List.map intC (box (List.getD (Core.kids c) k default)
 (List.foldl (fun o x => box x o) (box0 c S) (List.take k (Core.kids c)))))) = Lc_l5Boxed_sLb c S (k + 1) ∧ Ic_l5Boxed_sLb c S (List.length (Core.kids c) - (k + 1)) (Lc_l5Boxed_sLb
 c S (k + 1))) ∧ (decide ((↑k : Int) < (↑(List.length (List.map coreC (Core.kids c))) : Int)) = false → True ∧ W0c_l5Boxed_sLb c S (Ob.arr true 1 (List.map intC (List.foldl (fun o
 x => box x o) (box0 c S) (List.take k (Core.kids c))))) = W0c_l5Boxed_sLb c S (Ob.arr true 1 (List.map intC (box c S))))) := by kernel_rfl
theorem Sc_l5Boxed_sLb (c : Core) (S : List Int) (h : List.length S + wC c + 1 ≤ 2147483647) (ih : ∀ (z : Core), z ∈ Core.kids c → ∀ (S : List Int), List.length S + wC z + 1 ≤
 2147483647 → P_c_l5Boxed z S)  : LoopSem Try.prog (loopAt Try.f116 1) (Ic_l5Boxed_sLb c S) (Yc_l5Boxed_sLb c S) := by
  refine LoopSem.ofHead wide fun k h => ⟨_, _, run_c_l5Boxed_sLb c S k, ?_⟩
  have g1 := foldl_len (fun o x => box x o) wC (c.kids.take k) (fun y _ o => box_len y o) (box0 c S)
  have g2 := box0_len c S
  have g3 := sumBy_takeLe wC c.kids (k + 1)
  have g4 := wC_eq c
  with_reducible repeat' (first | apply And.intro | exact flatI | exact flatS | exact rowLens | exact ih | (intro; skip) | apply obsN | apply obsC | apply obA | apply obM | apply obB | apply svA | apply tupA | apply lcA | apply lcS | apply svC | apply liC | apply lbC | apply lsC | apply vIc | apply vBc | apply vSc | apply vLc | apply mapC | apply mIc | apply mOc | apply mSc | apply mLc | apply Hc_l5Boxed_sLa | apply Ec_l5Boxed_sLa | apply Hc_l5Boxed_sLb | apply Ec_l5Boxed_sLb | apply EW0c_l5Boxed_sLa | apply EW0c_l5Boxed_sLb | apply c_sHas | apply ih)
  all_goals (try simp only [std] at *)
  all_goals (try (first | with_reducible rfl | omega | assumption | (refine (decide_eq_true ?_).symm; assumption) | (refine (decide_eq_false ?_).symm; assumption) | (refine rowGet ?_; (first | omega | (simp only [std]; omega) | grind)) | (refine getC ?_ rfl; (first | omega | (simp only [std]; omega) | grind)) | exact look_mI | exact look_mO | exact look_mO1 | exact look_mS | exact look_mL | exact upd_mI | exact upd_mO | exact del_mO | exact upd_mS | exact take_mL | (refine upd_mL ?_; grind) | (refine fill_step ?_ ?_; (first | omega | (simp only [std]; omega) | grind); (first | rfl | exact (Row.eq _).trans rfl)) | (refine fill_init ?_; (first | rfl | exact (Row.eq _).trans rfl)) | grind [box_eq, foldl_step, getD_mem', sumBy_step, snocI, snocS, rowSnoc]))
theorem Sc_l5Boxed_sLa (c : Core) (S : List Int) (h : List.length S + wC c + 1 ≤ 2147483647) (ih : ∀ (z : Core), z ∈ Core.kids c → ∀ (S : List Int), List.length S + wC z + 1 ≤
 2147483647 → P_c_l5Boxed z S)  : LoopSem Try.prog (loopAt Try.f116 0) (Ic_l5Boxed_sLa c S) (Yc_l5Boxed_sLa c S) := by
  refine LoopSem.ofHead wide fun k h => ⟨_, _, run_c_l5Boxed_sLa c S k, ?_⟩
  have g1 := foldl_len addU (fun _ => 0) (c.params.take k) (fun y _ o => addU_len o y) S
  have g4 := wC_eq c
  rcases Decidable.em (c.kind = 4) with e4 | e4
  all_goals (first | simp only [if_pos e4] | simp only [if_neg e4])
  with_reducible repeat' (first | apply And.intro | exact flatI | exact flatS | exact rowLens | exact ih | (intro; skip) | apply obsN | apply obsC | apply obA | apply obM | apply obB | apply svA | apply tupA | apply lcA | apply lcS | apply svC | apply liC | apply lbC | apply lsC | apply vIc | apply vBc | apply vSc | apply vLc | apply mapC | apply mIc | apply mOc | apply mSc | apply mLc | apply Hc_l5Boxed_sLa | apply Ec_l5Boxed_sLa | apply Hc_l5Boxed_sLb | apply Ec_l5Boxed_sLb | apply Sc_l5Boxed_sLb | apply EW0c_l5Boxed_sLa | apply EW0c_l5Boxed_sLb | apply c_sHas)
  all_goals (try simp only [std] at *)
  all_goals (try (first | with_reducible rfl | omega | assumption | (refine (decide_eq_true ?_).symm; assumption) | (refine (decide_eq_false ?_).symm; assumption) | (refine rowGet ?_; (first | omega | (simp only [std]; omega) | grind)) | (refine getC ?_ rfl; (first | omega | (simp only [std]; omega) | grind)) | exact look_mI | exact look_mO | exact look_mO1 | exact look_mS | exact look_mL | exact upd_mI | exact upd_mO | exact del_mO | exact upd_mS | exact take_mL | (refine upd_mL ?_; grind) | (refine fill_step ?_ ?_; (first | omega | (simp only [std]; omega) | grind); (first | rfl | exact (Row.eq _).trans rfl)) | (refine fill_init ?_; (first | rfl | exact (Row.eq _).trans rfl)) | grind [foldl_step, sumBy_zero, box0, addU, snocI, snocS, rowSnoc]))
abbrev a1_c_l5Boxed_s (c : Core) (S : List Int) := (True → List.length (List.map coreC (Core.kids c)) ≤ 9223372036854775807 → Tc_l5Boxed_sLb c S (li 0) (Ob.arr true 1 (List.map
 intC (box0 c S))) = Lc_l5Boxed_sLb c S 0 ∧ Ic_l5Boxed_sLb c S (List.length (Core.kids c) - 0) (Lc_l5Boxed_sLb c S 0) ∧ LoopSem Try.prog (loopAt Try.f116 1) (Ic_l5Boxed_sLb c S)
 (Yc_l5Boxed_sLb c S) ∧ (True → ObsEq [Ob.dead, Ob.arr true 1 (List.map intC (box c S))] [Ob.dead, Ob.arr true 1 (List.map intC (box c S))] ∧ AV.sv (SV.one (AC.ref 1)) = AV.sv
 (SV.one (AC.ref 1))) ∧ True)
abbrev a2_c_l5Boxed_s (c : Core) (S : List Int) := [(True, AEx.exit 0, W0c_l5Boxed_sLa c S (Ob.arr true 1 (List.map intC (box0 c S))), [Orc.ghost (Ghost.sel [0, 1] [1, 52, 53,
 54]), Orc.loop (List.length (Core.kids c) - 0) (Lc_l5Boxed_sLb c S 0) (Ic_l5Boxed_sLb c S) [(True, AEx.exit 2, W0c_l5Boxed_sLb c S (Ob.arr true 1 (List.map intC (box c S))),
 [Orc.fin [1]])]])]
theorem run_c_l5Boxed_s (c : Core) (S : List Int) : aexec Try.prog (Option.getD (Func.body Try.f116) Code.skip) (entry [Ob.arr true 1 (List.map intC S)] [coreA c, SV.one (AC.ref
 0)] 63) [Orc.br [Orc.call [Mode.rd, Mode.rd] [] (AV.sv (lb (decide (Core.number c ∈ S)))), Orc.br [Orc.ghost (Ghost.sel [0, 3, 1] [1, 2, 5]), Orc.loop (List.length (Core.params c)
 - 0) (Lc_l5Boxed_sLa c S 0) (Ic_l5Boxed_sLa c S) (a2_c_l5Boxed_s c S)] [Orc.ghost (Ghost.move 0), Orc.ghost (Ghost.sel [0, 2, 1] [1, 2, 5]), Orc.loop (List.length (Core.params c)
 - 0) (Lc_l5Boxed_sLa c S 0) (Ic_l5Boxed_sLa c S) (a2_c_l5Boxed_s c S)]] [Orc.bool false, Orc.ghost (Ghost.move 0), Orc.ghost (Ghost.sel [0, 2, 1] [1, 2, 5]), Orc.loop (List.length
 (Core.params c) - 0) (Lc_l5Boxed_sLa c S 0) (Ic_l5Boxed_sLa c S) (a2_c_l5Boxed_s c S)]] (finK Try.prog [ResultVar.tmp 4] [Ob.dead, Ob.arr true 1 (List.map intC (box c S))] (AV.sv
 (SV.one (AC.ref 1)))) = ((decide (Core.kind c = 4) = true → P_c_sHas S (Core.number c) ∧ ((!decide (Core.number c ∈ S)) = true → (List.length (List.map intC S) + 1) * 8 ≤
 140737488355328 ∧ Tc_l5Boxed_sLa c S (li 0) (Ob.arr true 1 (List.map intC S ++ [[cI (Core.number c)]])) = Lc_l5Boxed_sLa c S 0 ∧ Ic_l5Boxed_sLa c S (List.length (Core.params c) -
 0) (Lc_l5Boxed_sLa c S 0) ∧ LoopSem Try.prog (loopAt Try.f116 0) (Ic_l5Boxed_sLa c S) (Yc_l5Boxed_sLa c S) ∧ (a1_c_l5Boxed_s c S) ∧ True) ∧ ((!decide (Core.number c ∈ S)) = false
 → Tc_l5Boxed_sLa c S (li 0) (Ob.arr true 1 (List.map intC S)) = Lc_l5Boxed_sLa c S 0 ∧ Ic_l5Boxed_sLa c S (List.length (Core.params c) - 0) (Lc_l5Boxed_sLa c S 0) ∧ LoopSem
 Try.prog (loopAt Try.f116 0) (Ic_l5Boxed_sLa c S) (Yc_l5Boxed_sLa c S) ∧ (a1_c_l5Boxed_s c S) ∧ True)) ∧ (decide (Core.kind c = 4) = false → false = false ∧ Tc_l5Boxed_sLa c S (li
 0) (Ob.arr true 1 (List.map intC S)) = Lc_l5Boxed_sLa c S 0 ∧ Ic_l5Boxed_sLa c S (List.length (Core.params c) - 0) (Lc_l5Boxed_sLa c S 0) ∧ LoopSem Try.prog (loopAt Try.f116 0)
 (Ic_l5Boxed_sLa c S) (Yc_l5Boxed_sLa c S) ∧ (a1_c_l5Boxed_s c S) ∧ True)) := by kernel_rfl
theorem c_l5Boxed_s (c : Core) (S : List Int) (h : S.length + wC c + 1 ≤ 2147483647) (ih : ∀ z ∈ c.kids, ∀ (S : List Int) (h : S.length + wC z + 1 ≤ 2147483647), P_c_l5Boxed z S) 
 : P_c_l5Boxed c S := by
  refine CallOK.ofRun wide (run_c_l5Boxed_s c S) Try.call116 Try.func116 rfl rfl rfl ?_
  try delta a1_c_l5Boxed_s a2_c_l5Boxed_s
  have g4 := wC_eq c
  with_reducible repeat' (first | apply And.intro | exact flatI | exact flatS | exact rowLens | exact ih | (intro; skip) | apply obsN | apply obsC | apply obA | apply obM | apply obB | apply svA | apply tupA | apply lcA | apply lcS | apply svC | apply liC | apply lbC | apply lsC | apply vIc | apply vBc | apply vSc | apply vLc | apply mapC | apply mIc | apply mOc | apply mSc | apply mLc | apply Hc_l5Boxed_sLa | apply Ec_l5Boxed_sLa | apply Sc_l5Boxed_sLa | apply Hc_l5Boxed_sLb | apply Ec_l5Boxed_sLb | apply Sc_l5Boxed_sLb | apply EW0c_l5Boxed_sLa | apply EW0c_l5Boxed_sLb | apply c_sHas)
  all_goals (try simp only [std] at *)
  all_goals (try (first | with_reducible rfl | omega | assumption | (refine (decide_eq_true ?_).symm; assumption) | (refine (decide_eq_false ?_).symm; assumption) | (refine rowGet ?_; (first | omega | (simp only [std]; omega) | grind)) | (refine getC ?_ rfl; (first | omega | (simp only [std]; omega) | grind)) | exact look_mI | exact look_mO | exact look_mO1 | exact look_mS | exact look_mL | exact upd_mI | exact upd_mO | exact del_mO | exact upd_mS | exact take_mL | (refine upd_mL ?_; grind) | (refine fill_step ?_ ?_; (first | omega | (simp only [std]; omega) | grind); (first | rfl | exact (Row.eq _).trans rfl)) | (refine fill_init ?_; (first | rfl | exact (Row.eq _).trans rfl)) | grind [box0, addU, snocI, snocS, rowSnoc]))
theorem c_l5Boxed (c : Core) : ∀ (S : List Int) (h : S.length + wC c + 1 ≤ 2147483647), P_c_l5Boxed c S := Core.ind (P := fun c => ∀ (S : List Int) (h : S.length + wC c + 1 ≤ 2147483647), P_c_l5Boxed c S) (fun c ih S h => c_l5Boxed_s c S h ih) c

abbrev P_c_sBoxed (c : Core) : Prop := CallOK Try.prog 32 [] [coreA c] [.arr true 1 ((box c []).map intC)] (.sv (.one (.ref 0)))
theorem run_c_sBoxed (c : Core) : aexec Try.prog (Option.getD (Func.body Try.f32) Code.skip) (entry [] [coreA c] 6) [Orc.call [Mode.rd, Mode.own true 1] [Ob.dead, Ob.arr true 1
 (List.map intC (box c []))] (AV.sv (SV.one (AC.ref 1))), Orc.fin [3]] (finK Try.prog [ResultVar.tmp 2] [Ob.arr true 1 (List.map intC (box c []))] (AV.sv (SV.one (AC.ref 0)))) =
 (P_c_l5Boxed c [] ∧ ObsEq [Ob.arr true 1 (List.map intC (box c []))] [Ob.arr true 1 (List.map intC (box c []))] ∧ AV.sv (SV.one (AC.ref 0)) = AV.sv (SV.one (AC.ref 0))) := by
 kernel_rfl
theorem c_sBoxed (c : Core) (h : wC c ≤ 2147483600)  : P_c_sBoxed c := by
  refine CallOK.ofRun wide (run_c_sBoxed c) Try.call32 Try.func32 rfl rfl rfl ?_
  with_reducible repeat' (first | apply And.intro | exact flatI | exact flatS | exact rowLens | (intro; skip) | apply obsN | apply obsC | apply obA | apply obM | apply obB | apply svA | apply tupA | apply lcA | apply lcS | apply svC | apply liC | apply lbC | apply lsC | apply vIc | apply vBc | apply vSc | apply vLc | apply mapC | apply mIc | apply mOc | apply mSc | apply mLc | apply c_l5Boxed)
  all_goals (try simp only [std] at *)
  all_goals (try (first | with_reducible rfl | omega | assumption | (refine (decide_eq_true ?_).symm; assumption) | (refine (decide_eq_false ?_).symm; assumption) | (refine rowGet ?_; (first | omega | (simp only [std]; omega) | grind)) | (refine getC ?_ rfl; (first | omega | (simp only [std]; omega) | grind)) | exact look_mI | exact look_mO | exact look_mO1 | exact look_mS | exact look_mL | exact upd_mI | exact upd_mO | exact del_mO | exact upd_mS | exact take_mL | (refine upd_mL ?_; grind) | (refine fill_step ?_ ?_; (first | omega | (simp only [std]; omega) | grind); (first | rfl | exact (Row.eq _).trans rfl)) | (refine fill_init ?_; (first | rfl | exact (Row.eq _).trans rfl)) | grind [snocI, snocS, rowSnoc]))

abbrev P_c_iBoxed (c : Core) : Prop := CallOK Try.prog 33 [] [coreA c] [.arr true 1 ((box c []).map intC)] (.sv (.one (.ref 0)))
theorem run_c_iBoxed (c : Core) : aexec Try.prog (Option.getD (Func.body Try.f33) Code.skip) (entry [] [coreA c] 8) [Orc.ghost (Ghost.nilbox 1 0 true 1), Orc.ghost (Ghost.nilmbox 1
 1 kI), Orc.call [Mode.rd, Mode.ptr] [Ob.box [AC.ref 3, AC.mref 4], Ob.dead, Ob.dead, Ob.arr true 1 (List.map intC (box c [])), Ob.map (decide (box c [] = [])) kI (mI (memI (box c
 [])))] (AV.tup []), Orc.fin [7]] (finK Try.prog [ResultVar.tmp 2] [Ob.arr true 1 (List.map intC (box c []))] (AV.sv (SV.one (AC.ref 0)))) = (P_c_boxedIn c [] ∧ ObsEq [Ob.arr true
 1 (List.map intC (box c []))] [Ob.arr true 1 (List.map intC (box c []))] ∧ AV.sv (SV.one (AC.ref 0)) = AV.sv (SV.one (AC.ref 0))) := by kernel_rfl
theorem c_iBoxed (c : Core) (h : wC c ≤ 2147483600)  : P_c_iBoxed c := by
  refine CallOK.ofRun wide (run_c_iBoxed c) Try.call33 Try.func33 rfl rfl rfl ?_
  with_reducible repeat' (first | apply And.intro | exact flatI | exact flatS | exact rowLens | (intro; skip) | apply obsN | apply obsC | apply obA | apply obM | apply obB | apply svA | apply tupA | apply lcA | apply lcS | apply svC | apply liC | apply lbC | apply lsC | apply vIc | apply vBc | apply vSc | apply vLc | apply mapC | apply mIc | apply mOc | apply mSc | apply mLc | apply c_boxedIn)
  all_goals (try simp only [std] at *)
  all_goals (try (first | with_reducible rfl | omega | assumption | (refine (decide_eq_true ?_).symm; assumption) | (refine (decide_eq_false ?_).symm; assumption) | (refine rowGet ?_; (first | omega | (simp only [std]; omega) | grind)) | (refine getC ?_ rfl; (first | omega | (simp only [std]; omega) | grind)) | exact look_mI | exact look_mO | exact look_mO1 | exact look_mS | exact look_mL | exact upd_mI | exact upd_mO | exact del_mO | exact upd_mS | exact take_mL | (refine upd_mL ?_; grind) | (refine fill_step ?_ ?_; (first | omega | (simp only [std]; omega) | grind); (first | rfl | exact (Row.eq _).trans rfl)) | (refine fill_init ?_; (first | rfl | exact (Row.eq _).trans rfl)) | grind [snocI, snocS, rowSnoc]))
end Go.Proofs.Ytamcedjjlokfhaa
