/- The contracts of DepthOfCore, SizeOfCore, EqualCores (both packages) and of the laws that compare them. No condition. -/
import Derived.Test.YtjaahbkdpodbbaaHCore
namespace Go.Proofs.Ytjaahbkdpodbbaa
open Go Go.Proofs.Ytjaahbkdpodbbaa.Ab
set_option linter.unusedVariables false
set_option linter.unusedSimpArgs false

def maxBy {α : Type} (f : α → Nat) : List α → Nat
  | [] => 0
  | x :: r => max (f x) (maxBy f r)
theorem maxBy_snoc {α : Type} (f : α → Nat) : ∀ (l : List α) (x : α), maxBy f (l ++ [x]) = max (maxBy f l) (f x)
  | [], x => by simp [maxBy]
  | y :: l, x => by simp only [List.cons_append, maxBy, maxBy_snoc f l x]; omega
theorem sumBy_snoc {α : Type} (f : α → Nat) (l : List α) (x : α) : sumBy f (l ++ [x]) = sumBy f l + f x := by rw [sumBy_append]; simp [sumBy]
theorem sumBy_take_le {α : Type} (f : α → Nat) (l : List α) (k : Nat) : sumBy f (l.take k) ≤ sumBy f l := by
  have := sumBy_append f (l.take k) (l.drop k)
  rw [List.take_append_drop] at this; omega
theorem maxBy_take_le {α : Type} (f : α → Nat) : ∀ (l : List α) (k : Nat), maxBy f (l.take k) ≤ maxBy f l
  | [], k => by simp
  | x :: l, 0 => by simp [maxBy]
  | x :: l, k + 1 => by simp only [List.take_succ_cons, maxBy]; have := maxBy_take_le f l k; omega
theorem maxBy_mem {α : Type} (f : α → Nat) : ∀ {L : List α} {x : α}, x ∈ L → f x ≤ maxBy f L
  | y :: r, x, h => by
    rcases List.mem_cons.1 h with rfl | h
    · simp only [maxBy]; omega
    · have := maxBy_mem f h; simp only [maxBy]; omega
theorem sumBy_le {α : Type} {f g : α → Nat} : ∀ {L : List α}, (∀ x ∈ L, f x ≤ g x) → sumBy f L ≤ sumBy g L
  | [], _ => Nat.le_refl _
  | x :: l, h => by
    have h1 := h x List.mem_cons_self
    have h2 := sumBy_le (L := l) fun y hy => h y (List.mem_cons_of_mem _ hy)
    simp only [sumBy]; omega

mutual
def depthC : Core → Nat
  | ⟨_, _, _, _, l⟩ => depthCs l + 1
def depthCs : List Core → Nat
  | [] => 0
  | c :: r => max (depthC c) (depthCs r)
end
theorem depthCs_eq : ∀ l, depthCs l = maxBy depthC l
  | [] => by simp [depthCs, maxBy]
  | c :: r => by rw [depthCs, maxBy, depthCs_eq r]
theorem depthC_eq (c : Core) : depthC c = maxBy depthC c.kids + 1 := by cases c; simp only [depthC, depthCs_eq]
mutual
def sizeC : Core → Nat
  | ⟨_, _, _, _, l⟩ => sizeCs l + 1
def sizeCs : List Core → Nat
  | [] => 0
  | c :: r => sizeC c + sizeCs r
end
theorem sizeCs_eq : ∀ l, sizeCs l = sumBy sizeC l
  | [] => by simp [sizeCs, sumBy]
  | c :: r => by rw [sizeCs, sumBy, sizeCs_eq r]
theorem sizeC_eq (c : Core) : sizeC c = sumBy sizeC c.kids + 1 := by cases c; simp only [sizeC, sizeCs_eq]
theorem sumBy_add {α : Type} (f : α → Nat) : ∀ (L : List α), sumBy (fun x => f x + 1) L = sumBy f L + L.length
  | [] => rfl
  | x :: l => by simp only [sumBy, sumBy_add f l, List.length_cons]; omega
theorem sizeC_le : ∀ c : Core, sizeC c ≤ wC c + 1 := by
  refine Core.ind fun c ih => ?_
  have := sumBy_le ih
  rw [sumBy_add] at this
  rw [sizeC_eq, wC_eq]; omega
theorem maxBy_le {α : Type} {f g : α → Nat} : ∀ {L : List α}, (∀ x ∈ L, f x ≤ g x) → maxBy f L ≤ sumBy g L
  | [], _ => Nat.le_refl _
  | x :: l, h => by
    have h1 := h x List.mem_cons_self
    have h2 := maxBy_le (L := l) fun y hy => h y (List.mem_cons_of_mem _ hy)
    simp only [sumBy, maxBy]; omega
theorem depthC_le : ∀ c : Core, depthC c ≤ sizeC c := by
  refine Core.ind fun c ih => ?_
  have := maxBy_le ih
  rw [sizeC_eq, depthC_eq]; omega

def Tc_sDepth_sLa (c : Core) (x0 : SV) (x1 : SV) : St := St.mk (regsOf 20 [(3, AV.sv x1), (7, AV.sv (ll (List.map coreC (Core.kids c)))), (8, AV.sv (li (↑(List.length (List.map
 coreC (Core.kids c))) : Int))), (9, AV.sv x0)]) [] 0 
def Lc_sDepth_sLa (c : Core) (k : Nat) : St := Tc_sDepth_sLa c (li (↑k : Int)) (li (↑(maxBy depthC (List.take k (Core.kids c))) : Int)) 
def Ic_sDepth_sLa (c : Core) : Nat → St → Prop := Head (Lc_sDepth_sLa c) (fun k => k ≤ List.length (Core.kids c) ∧ List.length (Core.kids c) ≤ 9223372036854775807) fun k =>
 List.length (Core.kids c) - k 
def W0c_sDepth_sLa (c : Core) (x0 : SV) : St := St.mk (regsOf 20 [(3, AV.sv x0)]) [] 0 
def Yc_sDepth_sLa (c : Core) : List (Prop × AEx × St) := [(True, AEx.exit 0, W0c_sDepth_sLa c (li (↑(maxBy depthC (Core.kids c)) : Int)))]
theorem Hc_sDepth_sLa {c : Core} {k : Nat} {m : Nat} (h : (fun k => k ≤ List.length (Core.kids c) ∧ List.length (Core.kids c) ≤ 9223372036854775807) k) (hm : (fun k => List.length
 (Core.kids c) - k) k = m) : Ic_sDepth_sLa c m (Lc_sDepth_sLa c k) := hm ▸ Head.mk h
theorem Ec_sDepth_sLa {c : Core} {k : Nat} {x0 : SV} {x1 : SV} (h0 : x0 = (li (↑k : Int))) (h1 : x1 = (li (↑(maxBy depthC (List.take k (Core.kids c))) : Int))) : Tc_sDepth_sLa c x0
 x1 = Lc_sDepth_sLa c k := by (rw [h0, h1]; rfl)
theorem run_c_sDepth_sLa (c : Core) (k : Nat) : aexec Try.prog (loopAt Try.f31 0) (Lc_sDepth_sLa c k) [Orc.br [Orc.cells (coreF (List.getD (Core.kids c) k default)), Orc.call
 [Mode.rd] [] (AV.sv (li (↑(depthC (List.getD (Core.kids c) k default)) : Int))), Orc.ghost (Ghost.sel [] [3, 7, 8, 9]), Orc.goto (List.length (Core.kids c) - (k + 1))
 (Lc_sDepth_sLa c (k + 1))] [Orc.ghost (Ghost.sel [] [3]), Orc.out 0]] (loopK (Ic_sDepth_sLa c) (Yc_sDepth_sLa c) (List.length (Core.kids c) - k)) = ((decide ((↑k : Int) <
 (↑(List.length (List.map coreC (Core.kids c))) : Int)) = true → (0 ≤ (↑k : Int) ∧ (List.map coreC (Core.kids c))[Int.toNat (↑k : Int)]? = some (coreF (List.getD (Core.kids c) k
 default))) ∧ CallOK Try.prog 31 [] [coreA (List.getD (Core.kids c) k default)] [] (AV.sv (li (↑(depthC (List.getD (Core.kids c) k default)) : Int))) ∧ rng IntKind.i64 ((↑k : Int)
 + 1) ∧ List.length (Core.kids c) - (k + 1) < List.length (Core.kids c) - k ∧ Tc_sDepth_sLa c (li ((↑k : Int) + 1)) (li (max (↑(maxBy depthC (List.take k (Core.kids c))) : Int)
 (↑(depthC (List.getD (Core.kids c) k default)) : Int))) = Lc_sDepth_sLa c (k + 1) ∧ Ic_sDepth_sLa c (List.length (Core.kids c) - (k + 1)) (Lc_sDepth_sLa c (k + 1))) ∧ (decide ((↑k
 : Int) < (↑(List.length (List.map coreC (Core.kids c))) : Int)) = false → True ∧ W0c_sDepth_sLa c (li (↑(maxBy depthC (List.take k (Core.kids c))) : Int)) = W0c_sDepth_sLa c (li
 (↑(maxBy depthC (Core.kids c)) : Int)))) := by kernel_rfl
theorem Sc_sDepth_sLa (c : Core) (h : sizeC c ≤ 2147483647) (ih : ∀ (z : Core), z ∈ Core.kids c → sizeC z ≤ 2147483647 → CallOK Try.prog 31 [] [coreA z] [] (AV.sv (li (↑(depthC z)
 : Int))))  : LoopSem Try.prog (loopAt Try.f31 0) (Ic_sDepth_sLa c) (Yc_sDepth_sLa c) := by
  refine LoopSem.ofHead wide fun k h => ⟨_, _, run_c_sDepth_sLa c k, ?_⟩
  with_reducible repeat' (first | apply And.intro | (intro; skip) | apply Hc_sDepth_sLa | apply Ec_sDepth_sLa | apply ih)
  all_goals (try simp only [size_list, List.length_map, Int.toNat_natCast, rng64, obsEq_iff, List.length_append, List.length_replicate, fillTo_len, decide_eq_true_eq, decide_eq_false_iff_not, ne_eq, lb_inj, li_inj, ls_inj, mk_toArray, tx_mkS, mkS_inj, size_mkS] at *)
  all_goals (try (first | with_reducible rfl | omega | assumption | exact getC (by first | omega | (simp only [fillTo_len]; omega) | grind) rfl | exact outcomeGet (by first | omega | (simp only [fillTo_len]; omega) | grind) | exact datumGet (by first | omega | (simp only [fillTo_len]; omega) | grind) | exact coreGet (by first | omega | (simp only [fillTo_len]; omega) | grind) | exact congrArg (Ob.arr true _) (fill_step (by first | omega | (simp only [fillTo_len]; omega) | grind) (by first | rfl | exact outcomeC_eq _ | exact datumC_eq _ | exact coreC_eq _)) | exact congrArg (Ob.arr true _) (fill_init (by first | rfl | exact outcomeC_eq _ | exact datumC_eq _ | exact coreC_eq _)) | grind [take_get, maxBy_snoc, getD_mem', sizeC_eq, sumBy_mem]))
theorem run_c_sDepth_s (c : Core) : aexec Try.prog (Option.getD (Func.body Try.f31) Code.skip) (entry [] [coreA c] 20) [Orc.ghost (Ghost.sel [] [3, 7, 8, 9]), Orc.loop (List.length
 (Core.kids c) - 0) (Lc_sDepth_sLa c 0) (Ic_sDepth_sLa c) [(True, AEx.exit 0, W0c_sDepth_sLa c (li (↑(maxBy depthC (Core.kids c)) : Int)), [Orc.fin []])]] (finK Try.prog
 [ResultVar.tmp 2] [] (AV.sv (li (↑(depthC c) : Int)))) = (List.length (List.map coreC (Core.kids c)) ≤ 9223372036854775807 → Tc_sDepth_sLa c (li 0) (li 0) = Lc_sDepth_sLa c 0 ∧
 Ic_sDepth_sLa c (List.length (Core.kids c) - 0) (Lc_sDepth_sLa c 0) ∧ LoopSem Try.prog (loopAt Try.f31 0) (Ic_sDepth_sLa c) (Yc_sDepth_sLa c) ∧ (True → rng IntKind.i64 ((↑(maxBy
 depthC (Core.kids c)) : Int) + 1) ∧ ObsEq [] [] ∧ AV.sv (li ((↑(maxBy depthC (Core.kids c)) : Int) + 1)) = AV.sv (li (↑(depthC c) : Int))) ∧ True) := by kernel_rfl
theorem c_sDepth_s (c : Core) (h : sizeC c ≤ 2147483647) (ih : ∀ z ∈ c.kids, ∀ (h : sizeC z ≤ 2147483647), CallOK Try.prog 31 [] [coreA z] [] (.sv (li (depthC z))))  : CallOK
 Try.prog 31 [] [coreA c] [] (.sv (li (depthC c))) := by
  refine CallOK.ofRun wide (run_c_sDepth_s c) Try.call31 Try.func31 rfl rfl rfl ?_
  have h1 := depthC_le c
  with_reducible repeat' (first | apply And.intro | (intro; skip) | apply Hc_sDepth_sLa | apply Ec_sDepth_sLa | apply Sc_sDepth_sLa)
  all_goals (try simp only [size_list, List.length_map, Int.toNat_natCast, rng64, obsEq_iff, List.length_append, List.length_replicate, fillTo_len, decide_eq_true_eq, decide_eq_false_iff_not, ne_eq, lb_inj, li_inj, ls_inj, mk_toArray, tx_mkS, mkS_inj, size_mkS] at *)
  all_goals (try (first | with_reducible rfl | omega | assumption | exact getC (by first | omega | (simp only [fillTo_len]; omega) | grind) rfl | exact outcomeGet (by first | omega | (simp only [fillTo_len]; omega) | grind) | exact datumGet (by first | omega | (simp only [fillTo_len]; omega) | grind) | exact coreGet (by first | omega | (simp only [fillTo_len]; omega) | grind) | exact congrArg (Ob.arr true _) (fill_step (by first | omega | (simp only [fillTo_len]; omega) | grind) (by first | rfl | exact outcomeC_eq _ | exact datumC_eq _ | exact coreC_eq _)) | exact congrArg (Ob.arr true _) (fill_init (by first | rfl | exact outcomeC_eq _ | exact datumC_eq _ | exact coreC_eq _)) | grind [depthC_eq, maxBy]))

theorem c_sDepth (c : Core) : ∀ (h : sizeC c ≤ 2147483647), CallOK Try.prog 31 [] [coreA c] [] (.sv (li (depthC c))) := Core.ind (P := fun c => ∀ (h : sizeC c ≤ 2147483647), CallOK Try.prog 31 [] [coreA c] [] (.sv (li (depthC c)))) (fun c ih h => c_sDepth_s c h ih) c
def Tc_iDepth_sLa (c : Core) (x0 : SV) (x1 : SV) : St := St.mk (regsOf 20 [(3, AV.sv x1), (7, AV.sv (ll (List.map coreC (Core.kids c)))), (8, AV.sv (li (↑(List.length (List.map
 coreC (Core.kids c))) : Int))), (9, AV.sv x0)]) [] 0 
def Lc_iDepth_sLa (c : Core) (k : Nat) : St := Tc_iDepth_sLa c (li (↑k : Int)) (li (↑(maxBy depthC (List.take k (Core.kids c))) : Int)) 
def Ic_iDepth_sLa (c : Core) : Nat → St → Prop := Head (Lc_iDepth_sLa c) (fun k => k ≤ List.length (Core.kids c) ∧ List.length (Core.kids c) ≤ 9223372036854775807) fun k =>
 List.length (Core.kids c) - k 
def W0c_iDepth_sLa (c : Core) (x0 : SV) : St := St.mk (regsOf 20 [(3, AV.sv x0)]) [] 0 
def Yc_iDepth_sLa (c : Core) : List (Prop × AEx × St) := [(True, AEx.exit 0, W0c_iDepth_sLa c (li (↑(maxBy depthC (Core.kids c)) : Int)))]
theorem Hc_iDepth_sLa {c : Core} {k : Nat} {m : Nat} (h : (fun k => k ≤ List.length (Core.kids c) ∧ List.length (Core.kids c) ≤ 9223372036854775807) k) (hm : (fun k => List.length
 (Core.kids c) - k) k = m) : Ic_iDepth_sLa c m (Lc_iDepth_sLa c k) := hm ▸ Head.mk h
theorem Ec_iDepth_sLa {c : Core} {k : Nat} {x0 : SV} {x1 : SV} (h0 : x0 = (li (↑k : Int))) (h1 : x1 = (li (↑(maxBy depthC (List.take k (Core.kids c))) : Int))) : Tc_iDepth_sLa c x0
 x1 = Lc_iDepth_sLa c k := by (rw [h0, h1]; rfl)
theorem run_c_iDepth_sLa (c : Core) (k : Nat) : aexec Try.prog (loopAt Try.f33 0) (Lc_iDepth_sLa c k) [Orc.br [Orc.cells (coreF (List.getD (Core.kids c) k default)), Orc.call
 [Mode.rd] [] (AV.sv (li (↑(depthC (List.getD (Core.kids c) k default)) : Int))), Orc.ghost (Ghost.sel [] [3, 7, 8, 9]), Orc.goto (List.length (Core.kids c) - (k + 1))
 (Lc_iDepth_sLa c (k + 1))] [Orc.ghost (Ghost.sel [] [3]), Orc.out 0]] (loopK (Ic_iDepth_sLa c) (Yc_iDepth_sLa c) (List.length (Core.kids c) - k)) = ((decide ((↑k : Int) <
 (↑(List.length (List.map coreC (Core.kids c))) : Int)) = true → (0 ≤ (↑k : Int) ∧ (List.map coreC (Core.kids c))[Int.toNat (↑k : Int)]? = some (coreF (List.getD (Core.kids c) k
 default))) ∧ CallOK Try.prog 33 [] [coreA (List.getD (Core.kids c) k default)] [] (AV.sv (li (↑(depthC (List.getD (Core.kids c) k default)) : Int))) ∧ rng IntKind.i64 ((↑k : Int)
 + 1) ∧ List.length (Core.kids c) - (k + 1) < List.length (Core.kids c) - k ∧ Tc_iDepth_sLa c (li ((↑k : Int) + 1)) (li (max (↑(maxBy depthC (List.take k (Core.kids c))) : Int)
 (↑(depthC (List.getD (Core.kids c) k default)) : Int))) = Lc_iDepth_sLa c (k + 1) ∧ Ic_iDepth_sLa c (List.length (Core.kids c) - (k + 1)) (Lc_iDepth_sLa c (k + 1))) ∧ (decide ((↑k
 : Int) < (↑(List.length (List.map coreC (Core.kids c))) : Int)) = false → True ∧ W0c_iDepth_sLa c (li (↑(maxBy depthC (List.take k (Core.kids c))) : Int)) = W0c_iDepth_sLa c (li
 (↑(maxBy depthC (Core.kids c)) : Int)))) := by kernel_rfl
theorem Sc_iDepth_sLa (c : Core) (h : sizeC c ≤ 2147483647) (ih : ∀ (z : Core), z ∈ Core.kids c → sizeC z ≤ 2147483647 → CallOK Try.prog 33 [] [coreA z] [] (AV.sv (li (↑(depthC z)
 : Int))))  : LoopSem Try.prog (loopAt Try.f33 0) (Ic_iDepth_sLa c) (Yc_iDepth_sLa c) := by
  refine LoopSem.ofHead wide fun k h => ⟨_, _, run_c_iDepth_sLa c k, ?_⟩
  with_reducible repeat' (first | apply And.intro | (intro; skip) | apply Hc_iDepth_sLa | apply Ec_iDepth_sLa | apply ih)
  all_goals (try simp only [size_list, List.length_map, Int.toNat_natCast, rng64, obsEq_iff, List.length_append, List.length_replicate, fillTo_len, decide_eq_true_eq, decide_eq_false_iff_not, ne_eq, lb_inj, li_inj, ls_inj, mk_toArray, tx_mkS, mkS_inj, size_mkS] at *)
  all_goals (try (first | with_reducible rfl | omega | assumption | exact getC (by first | omega | (simp only [fillTo_len]; omega) | grind) rfl | exact outcomeGet (by first | omega | (simp only [fillTo_len]; omega) | grind) | exact datumGet (by first | omega | (simp only [fillTo_len]; omega) | grind) | exact coreGet (by first | omega | (simp only [fillTo_len]; omega) | grind) | exact congrArg (Ob.arr true _) (fill_step (by first | omega | (simp only [fillTo_len]; omega) | grind) (by first | rfl | exact outcomeC_eq _ | exact datumC_eq _ | exact coreC_eq _)) | exact congrArg (Ob.arr true _) (fill_init (by first | rfl | exact outcomeC_eq _ | exact datumC_eq _ | exact coreC_eq _)) | grind [take_get, maxBy_snoc, getD_mem', sizeC_eq, sumBy_mem]))
theorem run_c_iDepth_s (c : Core) : aexec Try.prog (Option.getD (Func.body Try.f33) Code.skip) (entry [] [coreA c] 20) [Orc.ghost (Ghost.sel [] [3, 7, 8, 9]), Orc.loop (List.length
 (Core.kids c) - 0) (Lc_iDepth_sLa c 0) (Ic_iDepth_sLa c) [(True, AEx.exit 0, W0c_iDepth_sLa c (li (↑(maxBy depthC (Core.kids c)) : Int)), [Orc.fin []])]] (finK Try.prog
 [ResultVar.tmp 2] [] (AV.sv (li (↑(depthC c) : Int)))) = (List.length (List.map coreC (Core.kids c)) ≤ 9223372036854775807 → Tc_iDepth_sLa c (li 0) (li 0) = Lc_iDepth_sLa c 0 ∧
 Ic_iDepth_sLa c (List.length (Core.kids c) - 0) (Lc_iDepth_sLa c 0) ∧ LoopSem Try.prog (loopAt Try.f33 0) (Ic_iDepth_sLa c) (Yc_iDepth_sLa c) ∧ (True → rng IntKind.i64 ((↑(maxBy
 depthC (Core.kids c)) : Int) + 1) ∧ ObsEq [] [] ∧ AV.sv (li ((↑(maxBy depthC (Core.kids c)) : Int) + 1)) = AV.sv (li (↑(depthC c) : Int))) ∧ True) := by kernel_rfl
theorem c_iDepth_s (c : Core) (h : sizeC c ≤ 2147483647) (ih : ∀ z ∈ c.kids, ∀ (h : sizeC z ≤ 2147483647), CallOK Try.prog 33 [] [coreA z] [] (.sv (li (depthC z))))  : CallOK
 Try.prog 33 [] [coreA c] [] (.sv (li (depthC c))) := by
  refine CallOK.ofRun wide (run_c_iDepth_s c) Try.call33 Try.func33 rfl rfl rfl ?_
  have h1 := depthC_le c
  with_reducible repeat' (first | apply And.intro | (intro; skip) | apply Hc_iDepth_sLa | apply Ec_iDepth_sLa | apply Sc_iDepth_sLa)
  all_goals (try simp only [size_list, List.length_map, Int.toNat_natCast, rng64, obsEq_iff, List.length_append, List.length_replicate, fillTo_len, decide_eq_true_eq, decide_eq_false_iff_not, ne_eq, lb_inj, li_inj, ls_inj, mk_toArray, tx_mkS, mkS_inj, size_mkS] at *)
  all_goals (try (first | with_reducible rfl | omega | assumption | exact getC (by first | omega | (simp only [fillTo_len]; omega) | grind) rfl | exact outcomeGet (by first | omega | (simp only [fillTo_len]; omega) | grind) | exact datumGet (by first | omega | (simp only [fillTo_len]; omega) | grind) | exact coreGet (by first | omega | (simp only [fillTo_len]; omega) | grind) | exact congrArg (Ob.arr true _) (fill_step (by first | omega | (simp only [fillTo_len]; omega) | grind) (by first | rfl | exact outcomeC_eq _ | exact datumC_eq _ | exact coreC_eq _)) | exact congrArg (Ob.arr true _) (fill_init (by first | rfl | exact outcomeC_eq _ | exact datumC_eq _ | exact coreC_eq _)) | grind [depthC_eq, maxBy]))

theorem c_iDepth (c : Core) : ∀ (h : sizeC c ≤ 2147483647), CallOK Try.prog 33 [] [coreA c] [] (.sv (li (depthC c))) := Core.ind (P := fun c => ∀ (h : sizeC c ≤ 2147483647), CallOK Try.prog 33 [] [coreA c] [] (.sv (li (depthC c)))) (fun c ih h => c_iDepth_s c h ih) c

def Tc_sSize_sLa (c : Core) (x0 : SV) (x1 : SV) : St := St.mk (regsOf 19 [(3, AV.sv x1), (7, AV.sv (ll (List.map coreC (Core.kids c)))), (8, AV.sv (li (↑(List.length (List.map
 coreC (Core.kids c))) : Int))), (9, AV.sv x0)]) [] 0 
def Lc_sSize_sLa (c : Core) (k : Nat) : St := Tc_sSize_sLa c (li (↑k : Int)) (li (↑(1 + sumBy sizeC (List.take k (Core.kids c))) : Int)) 
def Ic_sSize_sLa (c : Core) : Nat → St → Prop := Head (Lc_sSize_sLa c) (fun k => k ≤ List.length (Core.kids c) ∧ List.length (Core.kids c) ≤ 9223372036854775807) fun k =>
 List.length (Core.kids c) - k 
def W0c_sSize_sLa (c : Core) (x0 : SV) : St := St.mk (regsOf 19 [(3, AV.sv x0)]) [] 0 
def Yc_sSize_sLa (c : Core) : List (Prop × AEx × St) := [(True, AEx.exit 0, W0c_sSize_sLa c (li (↑(1 + sumBy sizeC (Core.kids c)) : Int)))]
theorem Hc_sSize_sLa {c : Core} {k : Nat} {m : Nat} (h : (fun k => k ≤ List.length (Core.kids c) ∧ List.length (Core.kids c) ≤ 9223372036854775807) k) (hm : (fun k => List.length
 (Core.kids c) - k) k = m) : Ic_sSize_sLa c m (Lc_sSize_sLa c k) := hm ▸ Head.mk h
theorem Ec_sSize_sLa {c : Core} {k : Nat} {x0 : SV} {x1 : SV} (h0 : x0 = (li (↑k : Int))) (h1 : x1 = (li (↑(1 + sumBy sizeC (List.take k (Core.kids c))) : Int))) : Tc_sSize_sLa c
 x0 x1 = Lc_sSize_sLa c k := by (rw [h0, h1]; rfl)
theorem run_c_sSize_sLa (c : Core) (k : Nat) : aexec Try.prog (loopAt Try.f35 0) (Lc_sSize_sLa c k) [Orc.br [Orc.cells (coreF (List.getD (Core.kids c) k default)), Orc.call
 [Mode.rd] [] (AV.sv (li (↑(sizeC (List.getD (Core.kids c) k default)) : Int))), Orc.ghost (Ghost.sel [] [3, 7, 8, 9]), Orc.goto (List.length (Core.kids c) - (k + 1)) (Lc_sSize_sLa
 c (k + 1))] [Orc.ghost (Ghost.sel [] [3]), Orc.out 0]] (loopK (Ic_sSize_sLa c) (Yc_sSize_sLa c) (List.length (Core.kids c) - k)) = ((decide ((↑k : Int) < (↑(List.length (List.map
 coreC (Core.kids c))) : Int)) = true → (0 ≤ (↑k : Int) ∧ (List.map coreC (Core.kids c))[Int.toNat (↑k : Int)]? = some (coreF (List.getD (Core.kids c) k default))) ∧ CallOK
 Try.prog 35 [] [coreA (List.getD (Core.kids c) k default)] [] (AV.sv (li (↑(sizeC (List.getD (Core.kids c) k default)) : Int))) ∧ rng IntKind.i64 ((↑(1 + sumBy sizeC (List.take k
 (Core.kids c))) : Int) + (↑(sizeC (List.getD (Core.kids c) k default)) : Int)) ∧ rng IntKind.i64 ((↑k : Int) + 1) ∧ List.length (Core.kids c) - (k + 1) < List.length (Core.kids c)
 - k ∧ Tc_sSize_sLa c (li ((↑k : Int) + 1)) (li ((↑(1 + sumBy sizeC (List.take k (Core.kids c))) : Int) + (↑(sizeC (List.getD (Core.kids c) k default)) : Int))) = Lc_sSize_sLa c (k
 + 1) ∧ Ic_sSize_sLa c (List.length (Core.kids c) - (k + 1)) (Lc_sSize_sLa c (k + 1))) ∧ (decide ((↑k : Int) < (↑(List.length (List.map coreC (Core.kids c))) : Int)) = false → True
 ∧ W0c_sSize_sLa c (li (↑(1 + sumBy sizeC (List.take k (Core.kids c))) : Int)) = W0c_sSize_sLa c (li (↑(1 + sumBy sizeC (Core.kids c)) : Int)))) := by kernel_rfl
theorem Sc_sSize_sLa (c : Core) (h : sizeC c ≤ 2147483647) (ih : ∀ (z : Core), z ∈ Core.kids c → sizeC z ≤ 2147483647 → CallOK Try.prog 35 [] [coreA z] [] (AV.sv (li (↑(sizeC z) :
 Int))))  : LoopSem Try.prog (loopAt Try.f35 0) (Ic_sSize_sLa c) (Yc_sSize_sLa c) := by
  refine LoopSem.ofHead wide fun k h => ⟨_, _, run_c_sSize_sLa c k, ?_⟩
  have h1 := sumBy_take_le sizeC c.kids (k + 1)
  with_reducible repeat' (first | apply And.intro | (intro; skip) | apply Hc_sSize_sLa | apply Ec_sSize_sLa | apply ih)
  all_goals (try simp only [size_list, List.length_map, Int.toNat_natCast, rng64, obsEq_iff, List.length_append, List.length_replicate, fillTo_len, decide_eq_true_eq, decide_eq_false_iff_not, ne_eq, lb_inj, li_inj, ls_inj, mk_toArray, tx_mkS, mkS_inj, size_mkS] at *)
  all_goals (try (first | with_reducible rfl | omega | assumption | exact getC (by first | omega | (simp only [fillTo_len]; omega) | grind) rfl | exact outcomeGet (by first | omega | (simp only [fillTo_len]; omega) | grind) | exact datumGet (by first | omega | (simp only [fillTo_len]; omega) | grind) | exact coreGet (by first | omega | (simp only [fillTo_len]; omega) | grind) | exact congrArg (Ob.arr true _) (fill_step (by first | omega | (simp only [fillTo_len]; omega) | grind) (by first | rfl | exact outcomeC_eq _ | exact datumC_eq _ | exact coreC_eq _)) | exact congrArg (Ob.arr true _) (fill_init (by first | rfl | exact outcomeC_eq _ | exact datumC_eq _ | exact coreC_eq _)) | grind [take_get, sumBy_snoc, getD_mem', sizeC_eq, sumBy_mem]))
theorem run_c_sSize_s (c : Core) : aexec Try.prog (Option.getD (Func.body Try.f35) Code.skip) (entry [] [coreA c] 19) [Orc.ghost (Ghost.sel [] [3, 7, 8, 9]), Orc.loop (List.length
 (Core.kids c) - 0) (Lc_sSize_sLa c 0) (Ic_sSize_sLa c) [(True, AEx.exit 0, W0c_sSize_sLa c (li (↑(1 + sumBy sizeC (Core.kids c)) : Int)), [Orc.fin []])]] (finK Try.prog
 [ResultVar.tmp 2] [] (AV.sv (li (↑(sizeC c) : Int)))) = (List.length (List.map coreC (Core.kids c)) ≤ 9223372036854775807 → Tc_sSize_sLa c (li 0) (li 1) = Lc_sSize_sLa c 0 ∧
 Ic_sSize_sLa c (List.length (Core.kids c) - 0) (Lc_sSize_sLa c 0) ∧ LoopSem Try.prog (loopAt Try.f35 0) (Ic_sSize_sLa c) (Yc_sSize_sLa c) ∧ (True → ObsEq [] [] ∧ AV.sv (li (↑(1 +
 sumBy sizeC (Core.kids c)) : Int)) = AV.sv (li (↑(sizeC c) : Int))) ∧ True) := by kernel_rfl
theorem c_sSize_s (c : Core) (h : sizeC c ≤ 2147483647) (ih : ∀ z ∈ c.kids, ∀ (h : sizeC z ≤ 2147483647), CallOK Try.prog 35 [] [coreA z] [] (.sv (li (sizeC z))))  : CallOK
 Try.prog 35 [] [coreA c] [] (.sv (li (sizeC c))) := by
  refine CallOK.ofRun wide (run_c_sSize_s c) Try.call35 Try.func35 rfl rfl rfl ?_
  with_reducible repeat' (first | apply And.intro | (intro; skip) | apply Hc_sSize_sLa | apply Ec_sSize_sLa | apply Sc_sSize_sLa)
  all_goals (try simp only [size_list, List.length_map, Int.toNat_natCast, rng64, obsEq_iff, List.length_append, List.length_replicate, fillTo_len, decide_eq_true_eq, decide_eq_false_iff_not, ne_eq, lb_inj, li_inj, ls_inj, mk_toArray, tx_mkS, mkS_inj, size_mkS] at *)
  all_goals (try (first | with_reducible rfl | omega | assumption | exact getC (by first | omega | (simp only [fillTo_len]; omega) | grind) rfl | exact outcomeGet (by first | omega | (simp only [fillTo_len]; omega) | grind) | exact datumGet (by first | omega | (simp only [fillTo_len]; omega) | grind) | exact coreGet (by first | omega | (simp only [fillTo_len]; omega) | grind) | exact congrArg (Ob.arr true _) (fill_step (by first | omega | (simp only [fillTo_len]; omega) | grind) (by first | rfl | exact outcomeC_eq _ | exact datumC_eq _ | exact coreC_eq _)) | exact congrArg (Ob.arr true _) (fill_init (by first | rfl | exact outcomeC_eq _ | exact datumC_eq _ | exact coreC_eq _)) | grind [sizeC_eq, sumBy]))

theorem c_sSize (c : Core) : ∀ (h : sizeC c ≤ 2147483647), CallOK Try.prog 35 [] [coreA c] [] (.sv (li (sizeC c))) := Core.ind (P := fun c => ∀ (h : sizeC c ≤ 2147483647), CallOK Try.prog 35 [] [coreA c] [] (.sv (li (sizeC c)))) (fun c ih h => c_sSize_s c h ih) c
def Tc_iSize_sLa (c : Core) (x0 : SV) (x1 : SV) : St := St.mk (regsOf 19 [(3, AV.sv x1), (7, AV.sv (ll (List.map coreC (Core.kids c)))), (8, AV.sv (li (↑(List.length (List.map
 coreC (Core.kids c))) : Int))), (9, AV.sv x0)]) [] 0 
def Lc_iSize_sLa (c : Core) (k : Nat) : St := Tc_iSize_sLa c (li (↑k : Int)) (li (↑(1 + sumBy sizeC (List.take k (Core.kids c))) : Int)) 
def Ic_iSize_sLa (c : Core) : Nat → St → Prop := Head (Lc_iSize_sLa c) (fun k => k ≤ List.length (Core.kids c) ∧ List.length (Core.kids c) ≤ 9223372036854775807) fun k =>
 List.length (Core.kids c) - k 
def W0c_iSize_sLa (c : Core) (x0 : SV) : St := St.mk (regsOf 19 [(3, AV.sv x0)]) [] 0 
def Yc_iSize_sLa (c : Core) : List (Prop × AEx × St) := [(True, AEx.exit 0, W0c_iSize_sLa c (li (↑(1 + sumBy sizeC (Core.kids c)) : Int)))]
theorem Hc_iSize_sLa {c : Core} {k : Nat} {m : Nat} (h : (fun k => k ≤ List.length (Core.kids c) ∧ List.length (Core.kids c) ≤ 9223372036854775807) k) (hm : (fun k => List.length
 (Core.kids c) - k) k = m) : Ic_iSize_sLa c m (Lc_iSize_sLa c k) := hm ▸ Head.mk h
theorem Ec_iSize_sLa {c : Core} {k : Nat} {x0 : SV} {x1 : SV} (h0 : x0 = (li (↑k : Int))) (h1 : x1 = (li (↑(1 + sumBy sizeC (List.take k (Core.kids c))) : Int))) : Tc_iSize_sLa c
 x0 x1 = Lc_iSize_sLa c k := by (rw [h0, h1]; rfl)
theorem run_c_iSize_sLa (c : Core) (k : Nat) : aexec Try.prog (loopAt Try.f36 0) (Lc_iSize_sLa c k) [Orc.br [Orc.cells (coreF (List.getD (Core.kids c) k default)), Orc.call
 [Mode.rd] [] (AV.sv (li (↑(sizeC (List.getD (Core.kids c) k default)) : Int))), Orc.ghost (Ghost.sel [] [3, 7, 8, 9]), Orc.goto (List.length (Core.kids c) - (k + 1)) (Lc_iSize_sLa
 c (k + 1))] [Orc.ghost (Ghost.sel [] [3]), Orc.out 0]] (loopK (Ic_iSize_sLa c) (Yc_iSize_sLa c) (List.length (Core.kids c) - k)) = ((decide ((↑k : Int) < (↑(List.length (List.map
 coreC (Core.kids c))) : Int)) = true → (0 ≤ (↑k : Int) ∧ (List.map coreC (Core.kids c))[Int.toNat (↑k : Int)]? = some (coreF (List.getD (Core.kids c) k default))) ∧ CallOK
 Try.prog 36 [] [coreA (List.getD (Core.kids c) k default)] [] (AV.sv (li (↑(sizeC (List.getD (Core.kids c) k default)) : Int))) ∧ rng IntKind.i64 ((↑(1 + sumBy sizeC (List.take k
 (Core.kids c))) : Int) + (↑(sizeC (List.getD (Core.kids c) k default)) : Int)) ∧ rng IntKind.i64 ((↑k : Int) + 1) ∧ List.length (Core.kids c) - (k + 1) < List.length (Core.kids c)
 - k ∧ Tc_iSize_sLa c (li ((↑k : Int) + 1)) (li ((↑(1 + sumBy sizeC (List.take k (Core.kids c))) : Int) + (↑(sizeC (List.getD (Core.kids c) k default)) : Int))) = Lc_iSize_sLa c (k
 + 1) ∧ Ic_iSize_sLa c (List.length (Core.kids c) - (k + 1)) (Lc_iSize_sLa c (k + 1))) ∧ (decide ((↑k : Int) < (↑(List.length (List.map coreC (Core.kids c))) : Int)) = false → True
 ∧ W0c_iSize_sLa c (li (↑(1 + sumBy sizeC (List.take k (Core.kids c))) : Int)) = W0c_iSize_sLa c (li (↑(1 + sumBy sizeC (Core.kids c)) : Int)))) := by kernel_rfl
theorem Sc_iSize_sLa (c : Core) (h : sizeC c ≤ 2147483647) (ih : ∀ (z : Core), z ∈ Core.kids c → sizeC z ≤ 2147483647 → CallOK Try.prog 36 [] [coreA z] [] (AV.sv (li (↑(sizeC z) :
 Int))))  : LoopSem Try.prog (loopAt Try.f36 0) (Ic_iSize_sLa c) (Yc_iSize_sLa c) := by
  refine LoopSem.ofHead wide fun k h => ⟨_, _, run_c_iSize_sLa c k, ?_⟩
  have h1 := sumBy_take_le sizeC c.kids (k + 1)
  with_reducible repeat' (first | apply And.intro | (intro; skip) | apply Hc_iSize_sLa | apply Ec_iSize_sLa | apply ih)
  all_goals (try simp only [size_list, List.length_map, Int.toNat_natCast, rng64, obsEq_iff, List.length_append, List.length_replicate, fillTo_len, decide_eq_true_eq, decide_eq_false_iff_not, ne_eq, lb_inj, li_inj, ls_inj, mk_toArray, tx_mkS, mkS_inj, size_mkS] at *)
  all_goals (try (first | with_reducible rfl | omega | assumption | exact getC (by first | omega | (simp only [fillTo_len]; omega) | grind) rfl | exact outcomeGet (by first | omega | (simp only [fillTo_len]; omega) | grind) | exact datumGet (by first | omega | (simp only [fillTo_len]; omega) | grind) | exact coreGet (by first | omega | (simp only [fillTo_len]; omega) | grind) | exact congrArg (Ob.arr true _) (fill_step (by first | omega | (simp only [fillTo_len]; omega) | grind) (by first | rfl | exact outcomeC_eq _ | exact datumC_eq _ | exact coreC_eq _)) | exact congrArg (Ob.arr true _) (fill_init (by first | rfl | exact outcomeC_eq _ | exact datumC_eq _ | exact coreC_eq _)) | grind [take_get, sumBy_snoc, getD_mem', sizeC_eq, sumBy_mem]))
theorem run_c_iSize_s (c : Core) : aexec Try.prog (Option.getD (Func.body Try.f36) Code.skip) (entry [] [coreA c] 19) [Orc.ghost (Ghost.sel [] [3, 7, 8, 9]), Orc.loop (List.length
 (Core.kids c) - 0) (Lc_iSize_sLa c 0) (Ic_iSize_sLa c) [(True, AEx.exit 0, W0c_iSize_sLa c (li (↑(1 + sumBy sizeC (Core.kids c)) : Int)), [Orc.fin []])]] (finK Try.prog
 [ResultVar.tmp 2] [] (AV.sv (li (↑(sizeC c) : Int)))) = (List.length (List.map coreC (Core.kids c)) ≤ 9223372036854775807 → Tc_iSize_sLa c (li 0) (li 1) = Lc_iSize_sLa c 0 ∧
 Ic_iSize_sLa c (List.length (Core.kids c) - 0) (Lc_iSize_sLa c 0) ∧ LoopSem Try.prog (loopAt Try.f36 0) (Ic_iSize_sLa c) (Yc_iSize_sLa c) ∧ (True → ObsEq [] [] ∧ AV.sv (li (↑(1 +
 sumBy sizeC (Core.kids c)) : Int)) = AV.sv (li (↑(sizeC c) : Int))) ∧ True) := by kernel_rfl
theorem c_iSize_s (c : Core) (h : sizeC c ≤ 2147483647) (ih : ∀ z ∈ c.kids, ∀ (h : sizeC z ≤ 2147483647), CallOK Try.prog 36 [] [coreA z] [] (.sv (li (sizeC z))))  : CallOK
 Try.prog 36 [] [coreA c] [] (.sv (li (sizeC c))) := by
  refine CallOK.ofRun wide (run_c_iSize_s c) Try.call36 Try.func36 rfl rfl rfl ?_
  with_reducible repeat' (first | apply And.intro | (intro; skip) | apply Hc_iSize_sLa | apply Ec_iSize_sLa | apply Sc_iSize_sLa)
  all_goals (try simp only [size_list, List.length_map, Int.toNat_natCast, rng64, obsEq_iff, List.length_append, List.length_replicate, fillTo_len, decide_eq_true_eq, decide_eq_false_iff_not, ne_eq, lb_inj, li_inj, ls_inj, mk_toArray, tx_mkS, mkS_inj, size_mkS] at *)
  all_goals (try (first | with_reducible rfl | omega | assumption | exact getC (by first | omega | (simp only [fillTo_len]; omega) | grind) rfl | exact outcomeGet (by first | omega | (simp only [fillTo_len]; omega) | grind) | exact datumGet (by first | omega | (simp only [fillTo_len]; omega) | grind) | exact coreGet (by first | omega | (simp only [fillTo_len]; omega) | grind) | exact congrArg (Ob.arr true _) (fill_step (by first | omega | (simp only [fillTo_len]; omega) | grind) (by first | rfl | exact outcomeC_eq _ | exact datumC_eq _ | exact coreC_eq _)) | exact congrArg (Ob.arr true _) (fill_init (by first | rfl | exact outcomeC_eq _ | exact datumC_eq _ | exact coreC_eq _)) | grind [sizeC_eq, sumBy]))

theorem c_iSize (c : Core) : ∀ (h : sizeC c ≤ 2147483647), CallOK Try.prog 36 [] [coreA c] [] (.sv (li (sizeC c))) := Core.ind (P := fun c => ∀ (h : sizeC c ≤ 2147483647), CallOK Try.prog 36 [] [coreA c] [] (.sv (li (sizeC c)))) (fun c ih h => c_iSize_s c h ih) c

def Tc_sSameIntsLa (A : List Int) (B : List Int) (x0 : SV) : St := St.mk (regsOf 26 [(0, AV.sv (ll (List.map intC A))), (1, AV.sv (ll (List.map intC B))), (12, AV.sv (li
 (↑(List.length (List.map intC A)) : Int))), (13, AV.sv x0)]) [] 0 
def Lc_sSameIntsLa (A : List Int) (B : List Int) (k : Nat) : St := Tc_sSameIntsLa A B (li (↑k : Int)) 
def Ic_sSameIntsLa (A : List Int) (B : List Int) : Nat → St → Prop := Head (Lc_sSameIntsLa A B) (fun k => k ≤ List.length A ∧ List.length A ≤ 9223372036854775807 ∧ List.length A =
 List.length B ∧ List.take k A = List.take k B) fun k => List.length A - k 
def W0c_sSameIntsLa (A : List Int) (B : List Int) : St := St.mk (regsOf 26 []) [] 0 
def W1c_sSameIntsLa (A : List Int) (B : List Int) (x0 : SV) : St := St.mk (regsOf 26 [(4, AV.sv x0)]) [] 0 
def Yc_sSameIntsLa (A : List Int) (B : List Int) : List (Prop × AEx × St) := [(A = B, AEx.exit 0, W0c_sSameIntsLa A B), (A ≠ B, AEx.ret, W1c_sSameIntsLa A B (lb false))]
theorem Hc_sSameIntsLa {A : List Int} {B : List Int} {k : Nat} {m : Nat} (h : (fun k => k ≤ List.length A ∧ List.length A ≤ 9223372036854775807 ∧ List.length A = List.length B ∧
 List.take k A = List.take k B) k) (hm : (fun k => List.length A - k) k = m) : Ic_sSameIntsLa A B m (Lc_sSameIntsLa A B k) := hm ▸ Head.mk h
theorem Ec_sSameIntsLa {A : List Int} {B : List Int} {k : Nat} {x0 : SV} (h0 : x0 = (li (↑k : Int))) : Tc_sSameIntsLa A B x0 = Lc_sSameIntsLa A B k := by (rw [h0]; rfl)
theorem run_c_sSameIntsLa (A : List Int) (B : List Int) (k : Nat) : aexec Try.prog (loopAt Try.f66 0) (Lc_sSameIntsLa A B k) [Orc.br [Orc.draw [], Orc.cells (intC (List.getD A k
 default)), Orc.cells (intC (List.getD B k default)), Orc.br [Orc.ghost (Ghost.sel [] [4]), Orc.out 1] [Orc.ghost (Ghost.sel [] [0, 1, 12, 13]), Orc.goto (List.length A - (k + 1))
 (Lc_sSameIntsLa A B (k + 1))]] [Orc.ghost (Ghost.sel [] []), Orc.out 0]] (loopK (Ic_sSameIntsLa A B) (Yc_sSameIntsLa A B) (List.length A - k)) = ((decide ((↑k : Int) <
 (↑(List.length (List.map intC A)) : Int)) = true → (0 ≤ (↑k : Int) ∧ (List.map intC A)[Int.toNat (↑k : Int)]? = some [cI (List.getD A k 0)]) ∧ (0 ≤ (↑k : Int) ∧ (List.map intC
 B)[Int.toNat (↑k : Int)]? = some [cI (List.getD B k 0)]) ∧ (decide (List.getD A k 0 ≠ List.getD B k 0) = true → A ≠ B ∧ W1c_sSameIntsLa A B (lb false) = W1c_sSameIntsLa A B (lb
 false)) ∧ (decide (List.getD A k 0 ≠ List.getD B k 0) = false → rng IntKind.i64 ((↑k : Int) + 1) ∧ List.length A - (k + 1) < List.length A - k ∧ Tc_sSameIntsLa A B (li ((↑k : Int)
 + 1)) = Lc_sSameIntsLa A B (k + 1) ∧ Ic_sSameIntsLa A B (List.length A - (k + 1)) (Lc_sSameIntsLa A B (k + 1)))) ∧ (decide ((↑k : Int) < (↑(List.length (List.map intC A)) : Int))
 = false → A = B ∧ W0c_sSameIntsLa A B = W0c_sSameIntsLa A B)) := by kernel_rfl
theorem Sc_sSameIntsLa (A : List Int) (B : List Int)  : LoopSem Try.prog (loopAt Try.f66 0) (Ic_sSameIntsLa A B) (Yc_sSameIntsLa A B) := by
  refine LoopSem.ofHead wide fun k h => ⟨_, _, run_c_sSameIntsLa A B k, ?_⟩
  with_reducible repeat' (first | apply And.intro | (intro; skip) | apply Hc_sSameIntsLa | apply Ec_sSameIntsLa)
  all_goals (try simp only [size_list, List.length_map, Int.toNat_natCast, rng64, obsEq_iff, List.length_append, List.length_replicate, fillTo_len, decide_eq_true_eq, decide_eq_false_iff_not, ne_eq, lb_inj, li_inj, ls_inj, mk_toArray, tx_mkS, mkS_inj, size_mkS] at *)
  all_goals (try (first | with_reducible rfl | omega | assumption | exact getC (by first | omega | (simp only [fillTo_len]; omega) | grind) rfl | exact outcomeGet (by first | omega | (simp only [fillTo_len]; omega) | grind) | exact datumGet (by first | omega | (simp only [fillTo_len]; omega) | grind) | exact coreGet (by first | omega | (simp only [fillTo_len]; omega) | grind) | exact congrArg (Ob.arr true _) (fill_step (by first | omega | (simp only [fillTo_len]; omega) | grind) (by first | rfl | exact outcomeC_eq _ | exact datumC_eq _ | exact coreC_eq _)) | exact congrArg (Ob.arr true _) (fill_init (by first | rfl | exact outcomeC_eq _ | exact datumC_eq _ | exact coreC_eq _)) | grind [take_eq]))
theorem run_c_sSameInts (A : List Int) (B : List Int) : aexec Try.prog (Option.getD (Func.body Try.f66) Code.skip) (entry [] [ll (List.map intC A), ll (List.map intC B)] 26)
 [Orc.br [Orc.fin []] [Orc.ghost (Ghost.sel [] [0, 1, 12, 13]), Orc.loop (List.length A - 0) (Lc_sSameIntsLa A B 0) (Ic_sSameIntsLa A B) [(A = B, AEx.exit 0, W0c_sSameIntsLa A B,
 [Orc.fin []]), (A ≠ B, AEx.ret, W1c_sSameIntsLa A B (lb false), [Orc.fin []])]]] (finK Try.prog [ResultVar.tmp 4] [] (AV.sv (lb (decide (A = B))))) = (List.length (List.map intC
 A) ≤ 9223372036854775807 → List.length (List.map intC B) ≤ 9223372036854775807 → (decide ((↑(List.length (List.map intC A)) : Int) ≠ (↑(List.length (List.map intC B)) : Int)) =
 true → ObsEq [] [] ∧ AV.sv (lb false) = AV.sv (lb (decide (A = B)))) ∧ (decide ((↑(List.length (List.map intC A)) : Int) ≠ (↑(List.length (List.map intC B)) : Int)) = false →
 List.length (List.map intC A) ≤ 9223372036854775807 → Tc_sSameIntsLa A B (li 0) = Lc_sSameIntsLa A B 0 ∧ Ic_sSameIntsLa A B (List.length A - 0) (Lc_sSameIntsLa A B 0) ∧ LoopSem
 Try.prog (loopAt Try.f66 0) (Ic_sSameIntsLa A B) (Yc_sSameIntsLa A B) ∧ (A = B → ObsEq [] [] ∧ AV.sv (lb true) = AV.sv (lb (decide (A = B)))) ∧ ((A = B → False) → ObsEq [] [] ∧
 AV.sv (lb false) = AV.sv (lb (decide (A = B)))) ∧ True)) := by kernel_rfl
theorem c_sSameInts (A B : List Int)  : CallOK Try.prog 66 [] [ll (A.map intC), ll (B.map intC)] [] (.sv (lb (decide (A = B)))) := by
  refine CallOK.ofRun wide (run_c_sSameInts A B) Try.call66 Try.func66 rfl rfl rfl ?_
  with_reducible repeat' (first | apply And.intro | (intro; skip) | apply Hc_sSameIntsLa | apply Ec_sSameIntsLa | apply Sc_sSameIntsLa)
  all_goals (try simp only [size_list, List.length_map, Int.toNat_natCast, rng64, obsEq_iff, List.length_append, List.length_replicate, fillTo_len, decide_eq_true_eq, decide_eq_false_iff_not, ne_eq, lb_inj, li_inj, ls_inj, mk_toArray, tx_mkS, mkS_inj, size_mkS] at *)
  all_goals (try (first | with_reducible rfl | omega | assumption | exact getC (by first | omega | (simp only [fillTo_len]; omega) | grind) rfl | exact outcomeGet (by first | omega | (simp only [fillTo_len]; omega) | grind) | exact datumGet (by first | omega | (simp only [fillTo_len]; omega) | grind) | exact coreGet (by first | omega | (simp only [fillTo_len]; omega) | grind) | exact congrArg (Ob.arr true _) (fill_step (by first | omega | (simp only [fillTo_len]; omega) | grind) (by first | rfl | exact outcomeC_eq _ | exact datumC_eq _ | exact coreC_eq _)) | exact congrArg (Ob.arr true _) (fill_init (by first | rfl | exact outcomeC_eq _ | exact datumC_eq _ | exact coreC_eq _)) | grind))

def Tc_iSameIntsLa (A : List Int) (B : List Int) (x0 : SV) : St := St.mk (regsOf 26 [(0, AV.sv (ll (List.map intC A))), (1, AV.sv (ll (List.map intC B))), (12, AV.sv (li
 (↑(List.length (List.map intC A)) : Int))), (13, AV.sv x0)]) [] 0 
def Lc_iSameIntsLa (A : List Int) (B : List Int) (k : Nat) : St := Tc_iSameIntsLa A B (li (↑k : Int)) 
def Ic_iSameIntsLa (A : List Int) (B : List Int) : Nat → St → Prop := Head (Lc_iSameIntsLa A B) (fun k => k ≤ List.length A ∧ List.length A ≤ 9223372036854775807 ∧ List.length A =
 List.length B ∧ List.take k A = List.take k B) fun k => List.length A - k 
def W0c_iSameIntsLa (A : List Int) (B : List Int) : St := St.mk (regsOf 26 []) [] 0 
def W1c_iSameIntsLa (A : List Int) (B : List Int) (x0 : SV) : St := St.mk (regsOf 26 [(4, AV.sv x0)]) [] 0 
def Yc_iSameIntsLa (A : List Int) (B : List Int) : List (Prop × AEx × St) := [(A = B, AEx.exit 0, W0c_iSameIntsLa A B), (A ≠ B, AEx.ret, W1c_iSameIntsLa A B (lb false))]
theorem Hc_iSameIntsLa {A : List Int} {B : List Int} {k : Nat} {m : Nat} (h : (fun k => k ≤ List.length A ∧ List.length A ≤ 9223372036854775807 ∧ List.length A = List.length B ∧
 List.take k A = List.take k B) k) (hm : (fun k => List.length A - k) k = m) : Ic_iSameIntsLa A B m (Lc_iSameIntsLa A B k) := hm ▸ Head.mk h
theorem Ec_iSameIntsLa {A : List Int} {B : List Int} {k : Nat} {x0 : SV} (h0 : x0 = (li (↑k : Int))) : Tc_iSameIntsLa A B x0 = Lc_iSameIntsLa A B k := by (rw [h0]; rfl)
theorem run_c_iSameIntsLa (A : List Int) (B : List Int) (k : Nat) : aexec Try.prog (loopAt Try.f68 0) (Lc_iSameIntsLa A B k) [Orc.br [Orc.draw [], Orc.cells (intC (List.getD A k
 default)), Orc.cells (intC (List.getD B k default)), Orc.br [Orc.ghost (Ghost.sel [] [4]), Orc.out 1] [Orc.ghost (Ghost.sel [] [0, 1, 12, 13]), Orc.goto (List.length A - (k + 1))
 (Lc_iSameIntsLa A B (k + 1))]] [Orc.ghost (Ghost.sel [] []), Orc.out 0]] (loopK (Ic_iSameIntsLa A B) (Yc_iSameIntsLa A B) (List.length A - k)) = ((decide ((↑k : Int) <
 (↑(List.length (List.map intC A)) : Int)) = true → (0 ≤ (↑k : Int) ∧ (List.map intC A)[Int.toNat (↑k : Int)]? = some [cI (List.getD A k 0)]) ∧ (0 ≤ (↑k : Int) ∧ (List.map intC
 B)[Int.toNat (↑k : Int)]? = some [cI (List.getD B k 0)]) ∧ (decide (List.getD A k 0 ≠ List.getD B k 0) = true → A ≠ B ∧ W1c_iSameIntsLa A B (lb false) = W1c_iSameIntsLa A B (lb
 false)) ∧ (decide (List.getD A k 0 ≠ List.getD B k 0) = false → rng IntKind.i64 ((↑k : Int) + 1) ∧ List.length A - (k + 1) < List.length A - k ∧ Tc_iSameIntsLa A B (li ((↑k : Int)
 + 1)) = Lc_iSameIntsLa A B (k + 1) ∧ Ic_iSameIntsLa A B (List.length A - (k + 1)) (Lc_iSameIntsLa A B (k + 1)))) ∧ (decide ((↑k : Int) < (↑(List.length (List.map intC A)) : Int))
 = false → A = B ∧ W0c_iSameIntsLa A B = W0c_iSameIntsLa A B)) := by kernel_rfl
theorem Sc_iSameIntsLa (A : List Int) (B : List Int)  : LoopSem Try.prog (loopAt Try.f68 0) (Ic_iSameIntsLa A B) (Yc_iSameIntsLa A B) := by
  refine LoopSem.ofHead wide fun k h => ⟨_, _, run_c_iSameIntsLa A B k, ?_⟩
  with_reducible repeat' (first | apply And.intro | (intro; skip) | apply Hc_iSameIntsLa | apply Ec_iSameIntsLa)
  all_goals (try simp only [size_list, List.length_map, Int.toNat_natCast, rng64, obsEq_iff, List.length_append, List.length_replicate, fillTo_len, decide_eq_true_eq, decide_eq_false_iff_not, ne_eq, lb_inj, li_inj, ls_inj, mk_toArray, tx_mkS, mkS_inj, size_mkS] at *)
  all_goals (try (first | with_reducible rfl | omega | assumption | exact getC (by first | omega | (simp only [fillTo_len]; omega) | grind) rfl | exact outcomeGet (by first | omega | (simp only [fillTo_len]; omega) | grind) | exact datumGet (by first | omega | (simp only [fillTo_len]; omega) | grind) | exact coreGet (by first | omega | (simp only [fillTo_len]; omega) | grind) | exact congrArg (Ob.arr true _) (fill_step (by first | omega | (simp only [fillTo_len]; omega) | grind) (by first | rfl | exact outcomeC_eq _ | exact datumC_eq _ | exact coreC_eq _)) | exact congrArg (Ob.arr true _) (fill_init (by first | rfl | exact outcomeC_eq _ | exact datumC_eq _ | exact coreC_eq _)) | grind [take_eq]))
theorem run_c_iSameInts (A : List Int) (B : List Int) : aexec Try.prog (Option.getD (Func.body Try.f68) Code.skip) (entry [] [ll (List.map intC A), ll (List.map intC B)] 26)
 [Orc.br [Orc.fin []] [Orc.ghost (Ghost.sel [] [0, 1, 12, 13]), Orc.loop (List.length A - 0) (Lc_iSameIntsLa A B 0) (Ic_iSameIntsLa A B) [(A = B, AEx.exit 0, W0c_iSameIntsLa A B,
 [Orc.fin []]), (A ≠ B, AEx.ret, W1c_iSameIntsLa A B (lb false), [Orc.fin []])]]] (finK Try.prog [ResultVar.tmp 4] [] (AV.sv (lb (decide (A = B))))) = (List.length (List.map intC
 A) ≤ 9223372036854775807 → List.length (List.map intC B) ≤ 9223372036854775807 → (decide ((↑(List.length (List.map intC A)) : Int) ≠ (↑(List.length (List.map intC B)) : Int)) =
 true → ObsEq [] [] ∧ AV.sv (lb false) = AV.sv (lb (decide (A = B)))) ∧ (decide ((↑(List.length (List.map intC A)) : Int) ≠ (↑(List.length (List.map intC B)) : Int)) = false →
 List.length (List.map intC A) ≤ 9223372036854775807 → Tc_iSameIntsLa A B (li 0) = Lc_iSameIntsLa A B 0 ∧ Ic_iSameIntsLa A B (List.length A - 0) (Lc_iSameIntsLa A B 0) ∧ LoopSem
 Try.prog (loopAt Try.f68 0) (Ic_iSameIntsLa A B) (Yc_iSameIntsLa A B) ∧ (A = B → ObsEq [] [] ∧ AV.sv (lb true) = AV.sv (lb (decide (A = B)))) ∧ ((A = B → False) → ObsEq [] [] ∧
 AV.sv (lb false) = AV.sv (lb (decide (A = B)))) ∧ True)) := by kernel_rfl
theorem c_iSameInts (A B : List Int)  : CallOK Try.prog 68 [] [ll (A.map intC), ll (B.map intC)] [] (.sv (lb (decide (A = B)))) := by
  refine CallOK.ofRun wide (run_c_iSameInts A B) Try.call68 Try.func68 rfl rfl rfl ?_
  with_reducible repeat' (first | apply And.intro | (intro; skip) | apply Hc_iSameIntsLa | apply Ec_iSameIntsLa | apply Sc_iSameIntsLa)
  all_goals (try simp only [size_list, List.length_map, Int.toNat_natCast, rng64, obsEq_iff, List.length_append, List.length_replicate, fillTo_len, decide_eq_true_eq, decide_eq_false_iff_not, ne_eq, lb_inj, li_inj, ls_inj, mk_toArray, tx_mkS, mkS_inj, size_mkS] at *)
  all_goals (try (first | with_reducible rfl | omega | assumption | exact getC (by first | omega | (simp only [fillTo_len]; omega) | grind) rfl | exact outcomeGet (by first | omega | (simp only [fillTo_len]; omega) | grind) | exact datumGet (by first | omega | (simp only [fillTo_len]; omega) | grind) | exact coreGet (by first | omega | (simp only [fillTo_len]; omega) | grind) | exact congrArg (Ob.arr true _) (fill_step (by first | omega | (simp only [fillTo_len]; omega) | grind) (by first | rfl | exact outcomeC_eq _ | exact datumC_eq _ | exact coreC_eq _)) | exact congrArg (Ob.arr true _) (fill_init (by first | rfl | exact outcomeC_eq _ | exact datumC_eq _ | exact coreC_eq _)) | grind))


def Tc_sEqualData_sLa (a : Datum) (b : Datum) (x0 : SV) : St := St.mk (regsOf 53 [(2, AV.sv (SV.one (AC.ptr 0 0))), (3, AV.sv (SV.one (AC.ptr 1 0))), (36, AV.sv (li (↑(List.length
 (List.map datumC (Datum.items a))) : Int))), (37, AV.sv x0)]) [Ob.box (vals (datumF a)), Ob.box (vals (datumF b))] 0 
def Lc_sEqualData_sLa (a : Datum) (b : Datum) (k : Nat) : St := Tc_sEqualData_sLa a b (li (↑k : Int)) 
def Ic_sEqualData_sLa (a : Datum) (b : Datum) : Nat → St → Prop := Head (Lc_sEqualData_sLa a b) (fun k => k ≤ List.length (Datum.items a) ∧ List.length (Datum.items a) ≤
 9223372036854775807 ∧ List.length (Datum.items a) = List.length (Datum.items b) ∧ List.take k (Datum.items a) = List.take k (Datum.items b)) fun k => List.length (Datum.items a) -
 k 
def W0c_sEqualData_sLa (a : Datum) (b : Datum) : St := St.mk (regsOf 53 []) [] 0 
def W1c_sEqualData_sLa (a : Datum) (b : Datum) (x0 : SV) : St := St.mk (regsOf 53 [(4, AV.sv x0)]) [] 0 
def Yc_sEqualData_sLa (a : Datum) (b : Datum) : List (Prop × AEx × St) := [(Datum.items a = Datum.items b, AEx.exit 0, W0c_sEqualData_sLa a b), (Datum.items a ≠ Datum.items b,
 AEx.ret, W1c_sEqualData_sLa a b (lb false))]
theorem Hc_sEqualData_sLa {a : Datum} {b : Datum} {k : Nat} {m : Nat} (h : (fun k => k ≤ List.length (Datum.items a) ∧ List.length (Datum.items a) ≤ 9223372036854775807 ∧
 List.length (Datum.items a) = List.length (Datum.items b) ∧ List.take k (Datum.items a) = List.take k (Datum.items b)) k) (hm : (fun k => List.length (Datum.items a) - k) k = m) :
 Ic_sEqualData_sLa a b m (Lc_sEqualData_sLa a b k) := hm ▸ Head.mk h
theorem Ec_sEqualData_sLa {a : Datum} {b : Datum} {k : Nat} {x0 : SV} (h0 : x0 = (li (↑k : Int))) : Tc_sEqualData_sLa a b x0 = Lc_sEqualData_sLa a b k := by (rw [h0]; rfl)
theorem run_c_sEqualData_sLa (a : Datum) (b : Datum) (k : Nat) : aexec Try.prog (loopAt Try.f67 0) (Lc_sEqualData_sLa a b k) [Orc.br [Orc.draw [], Orc.cells (datumF (List.getD
 (Datum.items a) k default)), Orc.cells (datumF (List.getD (Datum.items b) k default)), Orc.call [Mode.rd, Mode.rd] [] (AV.sv (lb (decide (List.getD (Datum.items a) k default =
 List.getD (Datum.items b) k default)))), Orc.br [Orc.ghost (Ghost.sel [] [4]), Orc.out 1] [Orc.ghost (Ghost.sel [0, 1] [2, 3, 36, 37]), Orc.goto (List.length (Datum.items a) - (k
 + 1)) (Lc_sEqualData_sLa a b (k + 1))]] [Orc.ghost (Ghost.sel [] []), Orc.out 0]] (loopK (Ic_sEqualData_sLa a b) (Yc_sEqualData_sLa a b) (List.length (Datum.items a) - k)) =
 ((decide ((↑k : Int) < (↑(List.length (List.map datumC (Datum.items a))) : Int)) = true → (0 ≤ (↑k : Int) ∧ (List.map datumC (Datum.items a))[Int.toNat (↑k : Int)]? = some (datumF
 (List.getD (Datum.items a) k default))) ∧ (0 ≤ (↑k : Int) ∧ (List.map datumC (Datum.items b))[Int.toNat (↑k : Int)]? = some (datumF (List.getD (Datum.items b) k default))) ∧
 CallOK Try.prog 67 [] [datumA (List.getD (Datum.items a) k default), datumA (List.getD (Datum.items b) k default)] [] (AV.sv (lb (decide (List.getD (Datum.items a) k default =
 List.getD (Datum.items b) k default)))) ∧ ((!decide (List.getD (Datum.items a) k default = List.getD (Datum.items b) k default)) = true → Datum.items a ≠ Datum.items b ∧
 W1c_sEqualData_sLa a b (lb false) = W1c_sEqualData_sLa a b (lb false)) ∧ ((!decide (List.getD (Datum.items a) k default = List.getD (Datum.items b) k default)) = false → rng
 IntKind.i64 ((↑k : Int) + 1) ∧ List.length (Datum.items a) - (k + 1) < List.length (Datum.items a) - k ∧ Tc_sEqualData_sLa a b (li ((↑k : Int) + 1)) = Lc_sEqualData_sLa a b (k +
 1) ∧ Ic_sEqualData_sLa a b (List.length (Datum.items a) - (k + 1)) (Lc_sEqualData_sLa a b (k + 1)))) ∧ (decide ((↑k : Int) < (↑(List.length (List.map datumC (Datum.items a))) :
 Int)) = false → Datum.items a = Datum.items b ∧ W0c_sEqualData_sLa a b = W0c_sEqualData_sLa a b)) := by kernel_rfl
theorem Sc_sEqualData_sLa (a : Datum) (b : Datum) (ih : ∀ (z : Datum), z ∈ Datum.items a → ∀ (b : Datum), CallOK Try.prog 67 [] [datumA z, datumA b] [] (AV.sv (lb (decide (z =
 b)))))  : LoopSem Try.prog (loopAt Try.f67 0) (Ic_sEqualData_sLa a b) (Yc_sEqualData_sLa a b) := by
  refine LoopSem.ofHead wide fun k h => ⟨_, _, run_c_sEqualData_sLa a b k, ?_⟩
  with_reducible repeat' (first | apply And.intro | (intro; skip) | apply Hc_sEqualData_sLa | apply Ec_sEqualData_sLa | apply ih)
  all_goals (try simp only [size_list, List.length_map, Int.toNat_natCast, rng64, obsEq_iff, List.length_append, List.length_replicate, fillTo_len, decide_eq_true_eq, decide_eq_false_iff_not, ne_eq, lb_inj, li_inj, ls_inj, mk_toArray, tx_mkS, mkS_inj, size_mkS] at *)
  all_goals (try (first | with_reducible rfl | omega | assumption | exact getC (by first | omega | (simp only [fillTo_len]; omega) | grind) rfl | exact outcomeGet (by first | omega | (simp only [fillTo_len]; omega) | grind) | exact datumGet (by first | omega | (simp only [fillTo_len]; omega) | grind) | exact coreGet (by first | omega | (simp only [fillTo_len]; omega) | grind) | exact congrArg (Ob.arr true _) (fill_step (by first | omega | (simp only [fillTo_len]; omega) | grind) (by first | rfl | exact outcomeC_eq _ | exact datumC_eq _ | exact coreC_eq _)) | exact congrArg (Ob.arr true _) (fill_init (by first | rfl | exact outcomeC_eq _ | exact datumC_eq _ | exact coreC_eq _)) | grind [take_eq, getD_mem']))
theorem run_c_sEqualData_s (a : Datum) (b : Datum) : aexec Try.prog (Option.getD (Func.body Try.f67) Code.skip) (entry [] [datumA a, datumA b] 53) [Orc.br [Orc.bool true, Orc.bool
 true, Orc.bool true, Orc.fin []] [Orc.br [Orc.bool true, Orc.bool true, Orc.fin []] [Orc.br [Orc.bool true, Orc.fin []] [Orc.br [Orc.fin []] [Orc.ghost (Ghost.sel [0, 1] [2, 3,
 36, 37]), Orc.loop (List.length (Datum.items a) - 0) (Lc_sEqualData_sLa a b 0) (Ic_sEqualData_sLa a b) [(Datum.items a = Datum.items b, AEx.exit 0, W0c_sEqualData_sLa a b,
 [Orc.fin []]), (Datum.items a ≠ Datum.items b, AEx.ret, W1c_sEqualData_sLa a b (lb false), [Orc.fin []])]]]]]] (finK Try.prog [ResultVar.tmp 4] [] (AV.sv (lb (decide (a = b))))) =
 ((decide (Datum.kind a ≠ Datum.kind b) = true → true = true ∧ true = true ∧ true = true ∧ ObsEq [] [] ∧ AV.sv (lb false) = AV.sv (lb (decide (a = b)))) ∧ (decide (Datum.kind a ≠
 Datum.kind b) = false → (decide (Datum.number a ≠ Datum.number b) = true → true = true ∧ true = true ∧ ObsEq [] [] ∧ AV.sv (lb false) = AV.sv (lb (decide (a = b)))) ∧ (decide
 (Datum.number a ≠ Datum.number b) = false → (decide (Array.toList (ByteArray.data (Datum.text a)) ≠ Array.toList (ByteArray.data (Datum.text b))) = true → true = true ∧ ObsEq []
 [] ∧ AV.sv (lb false) = AV.sv (lb (decide (a = b)))) ∧ (decide (Array.toList (ByteArray.data (Datum.text a)) ≠ Array.toList (ByteArray.data (Datum.text b))) = false → List.length
 (List.map datumC (Datum.items a)) ≤ 9223372036854775807 → List.length (List.map datumC (Datum.items b)) ≤ 9223372036854775807 → (decide ((↑(List.length (List.map datumC
 (Datum.items a))) : Int) ≠ (↑(List.length (List.map datumC (Datum.items b))) : Int)) = true → ObsEq [] [] ∧ AV.sv (lb false) = AV.sv (lb (decide (a = b)))) ∧ (decide
 ((↑(List.length (List.map datumC (Datum.items a))) : Int) ≠ (↑(List.length (List.map datumC (Datum.items b))) : Int)) = false → List.length (List.map datumC (Datum.items a)) ≤
 9223372036854775807 → Tc_sEqualData_sLa a b (li 0) = Lc_sEqualData_sLa a b 0 ∧ Ic_sEqualData_sLa a b (List.length (Datum.items a) - 0) (Lc_sEqualData_sLa a b 0) ∧ LoopSem Try.prog
 (loopAt Try.f67 0) (Ic_sEqualData_sLa a b) (Yc_sEqualData_sLa a b) ∧ (Datum.items a = Datum.items b → ObsEq [] [] ∧ AV.sv (lb true) = AV.sv (lb (decide (a = b)))) ∧ ((Datum.items
 a = Datum.items b → False) → ObsEq [] [] ∧ AV.sv (lb false) = AV.sv (lb (decide (a = b)))) ∧ True))))) := by kernel_rfl
theorem c_sEqualData_s (a b : Datum) (ih : ∀ z ∈ a.items, ∀ (b : Datum), CallOK Try.prog 67 [] [datumA z, datumA b] [] (.sv (lb (decide (z = b)))))  : CallOK Try.prog 67 [] [datumA
 a, datumA b] [] (.sv (lb (decide (a = b)))) := by
  refine CallOK.ofRun wide (run_c_sEqualData_s a b) Try.call67 Try.func67 rfl rfl rfl ?_
  simp only [datumExt]
  with_reducible repeat' (first | apply And.intro | (intro; skip) | apply Hc_sEqualData_sLa | apply Ec_sEqualData_sLa | apply Sc_sEqualData_sLa)
  all_goals (try simp only [size_list, List.length_map, Int.toNat_natCast, rng64, obsEq_iff, List.length_append, List.length_replicate, fillTo_len, decide_eq_true_eq, decide_eq_false_iff_not, ne_eq, lb_inj, li_inj, ls_inj, mk_toArray, tx_mkS, mkS_inj, size_mkS] at *)
  all_goals (try (first | with_reducible rfl | omega | assumption | exact getC (by first | omega | (simp only [fillTo_len]; omega) | grind) rfl | exact outcomeGet (by first | omega | (simp only [fillTo_len]; omega) | grind) | exact datumGet (by first | omega | (simp only [fillTo_len]; omega) | grind) | exact coreGet (by first | omega | (simp only [fillTo_len]; omega) | grind) | exact congrArg (Ob.arr true _) (fill_step (by first | omega | (simp only [fillTo_len]; omega) | grind) (by first | rfl | exact outcomeC_eq _ | exact datumC_eq _ | exact coreC_eq _)) | exact congrArg (Ob.arr true _) (fill_init (by first | rfl | exact outcomeC_eq _ | exact datumC_eq _ | exact coreC_eq _)) | grind [bytes_ext]))

theorem c_sEqualData (a : Datum) : ∀ (b : Datum), CallOK Try.prog 67 [] [datumA a, datumA b] [] (.sv (lb (decide (a = b)))) := Datum.ind (P := fun a => ∀ (b : Datum), CallOK Try.prog 67 [] [datumA a, datumA b] [] (.sv (lb (decide (a = b))))) (fun a ih b => c_sEqualData_s a b ih) a
def Tc_iEqualData_sLa (a : Datum) (b : Datum) (x0 : SV) : St := St.mk (regsOf 53 [(2, AV.sv (SV.one (AC.ptr 0 0))), (3, AV.sv (SV.one (AC.ptr 1 0))), (36, AV.sv (li (↑(List.length
 (List.map datumC (Datum.items a))) : Int))), (37, AV.sv x0)]) [Ob.box (vals (datumF a)), Ob.box (vals (datumF b))] 0 
def Lc_iEqualData_sLa (a : Datum) (b : Datum) (k : Nat) : St := Tc_iEqualData_sLa a b (li (↑k : Int)) 
def Ic_iEqualData_sLa (a : Datum) (b : Datum) : Nat → St → Prop := Head (Lc_iEqualData_sLa a b) (fun k => k ≤ List.length (Datum.items a) ∧ List.length (Datum.items a) ≤
 9223372036854775807 ∧ List.length (Datum.items a) = List.length (Datum.items b) ∧ List.take k (Datum.items a) = List.take k (Datum.items b)) fun k => List.length (Datum.items a) -
 k 
def W0c_iEqualData_sLa (a : Datum) (b : Datum) : St := St.mk (regsOf 53 []) [] 0 
def W1c_iEqualData_sLa (a : Datum) (b : Datum) (x0 : SV) : St := St.mk (regsOf 53 [(4, AV.sv x0)]) [] 0 
def Yc_iEqualData_sLa (a : Datum) (b : Datum) : List (Prop × AEx × St) := [(Datum.items a = Datum.items b, AEx.exit 0, W0c_iEqualData_sLa a b), (Datum.items a ≠ Datum.items b,
 AEx.ret, W1c_iEqualData_sLa a b (lb false))]
theorem Hc_iEqualData_sLa {a : Datum} {b : Datum} {k : Nat} {m : Nat} (h : (fun k => k ≤ List.length (Datum.items a) ∧ List.length (Datum.items a) ≤ 9223372036854775807 ∧
 List.length (Datum.items a) = List.length (Datum.items b) ∧ List.take k (Datum.items a) = List.take k (Datum.items b)) k) (hm : (fun k => List.length (Datum.items a) - k) k = m) :
 Ic_iEqualData_sLa a b m (Lc_iEqualData_sLa a b k) := hm ▸ Head.mk h
theorem Ec_iEqualData_sLa {a : Datum} {b : Datum} {k : Nat} {x0 : SV} (h0 : x0 = (li (↑k : Int))) : Tc_iEqualData_sLa a b x0 = Lc_iEqualData_sLa a b k := by (rw [h0]; rfl)
theorem run_c_iEqualData_sLa (a : Datum) (b : Datum) (k : Nat) : aexec Try.prog (loopAt Try.f69 0) (Lc_iEqualData_sLa a b k) [Orc.br [Orc.draw [], Orc.cells (datumF (List.getD
 (Datum.items a) k default)), Orc.cells (datumF (List.getD (Datum.items b) k default)), Orc.call [Mode.rd, Mode.rd] [] (AV.sv (lb (decide (List.getD (Datum.items a) k default =
 List.getD (Datum.items b) k default)))), Orc.br [Orc.ghost (Ghost.sel [] [4]), Orc.out 1] [Orc.ghost (Ghost.sel [0, 1] [2, 3, 36, 37]), Orc.goto (List.length (Datum.items a) - (k
 + 1)) (Lc_iEqualData_sLa a b (k + 1))]] [Orc.ghost (Ghost.sel [] []), Orc.out 0]] (loopK (Ic_iEqualData_sLa a b) (Yc_iEqualData_sLa a b) (List.length (Datum.items a) - k)) =
 ((decide ((↑k : Int) < (↑(List.length (List.map datumC (Datum.items a))) : Int)) = true → (0 ≤ (↑k : Int) ∧ (List.map datumC (Datum.items a))[Int.toNat (↑k : Int)]? = some (datumF
 (List.getD (Datum.items a) k default))) ∧ (0 ≤ (↑k : Int) ∧ (List.map datumC (Datum.items b))[Int.toNat (↑k : Int)]? = some (datumF (List.getD (Datum.items b) k default))) ∧
 CallOK Try.prog 69 [] [datumA (List.getD (Datum.items a) k default), datumA (List.getD (Datum.items b) k default)] [] (AV.sv (lb (decide (List.getD (Datum.items a) k default =
 List.getD (Datum.items b) k default)))) ∧ ((!decide (List.getD (Datum.items a) k default = List.getD (Datum.items b) k default)) = true → Datum.items a ≠ Datum.items b ∧
 W1c_iEqualData_sLa a b (lb false) = W1c_iEqualData_sLa a b (lb false)) ∧ ((!decide (List.getD (Datum.items a) k default = List.getD (Datum.items b) k default)) = false → rng
 IntKind.i64 ((↑k : Int) + 1) ∧ List.length (Datum.items a) - (k + 1) < List.length (Datum.items a) - k ∧ Tc_iEqualData_sLa a b (li ((↑k : Int) + 1)) = Lc_iEqualData_sLa a b (k +
 1) ∧ Ic_iEqualData_sLa a b (List.length (Datum.items a) - (k + 1)) (Lc_iEqualData_sLa a b (k + 1)))) ∧ (decide ((↑k : Int) < (↑(List.length (List.map datumC (Datum.items a))) :
 Int)) = false → Datum.items a = Datum.items b ∧ W0c_iEqualData_sLa a b = W0c_iEqualData_sLa a b)) := by kernel_rfl
theorem Sc_iEqualData_sLa (a : Datum) (b : Datum) (ih : ∀ (z : Datum), z ∈ Datum.items a → ∀ (b : Datum), CallOK Try.prog 69 [] [datumA z, datumA b] [] (AV.sv (lb (decide (z =
 b)))))  : LoopSem Try.prog (loopAt Try.f69 0) (Ic_iEqualData_sLa a b) (Yc_iEqualData_sLa a b) := by
  refine LoopSem.ofHead wide fun k h => ⟨_, _, run_c_iEqualData_sLa a b k, ?_⟩
  with_reducible repeat' (first | apply And.intro | (intro; skip) | apply Hc_iEqualData_sLa | apply Ec_iEqualData_sLa | apply ih)
  all_goals (try simp only [size_list, List.length_map, Int.toNat_natCast, rng64, obsEq_iff, List.length_append, List.length_replicate, fillTo_len, decide_eq_true_eq, decide_eq_false_iff_not, ne_eq, lb_inj, li_inj, ls_inj, mk_toArray, tx_mkS, mkS_inj, size_mkS] at *)
  all_goals (try (first | with_reducible rfl | omega | assumption | exact getC (by first | omega | (simp only [fillTo_len]; omega) | grind) rfl | exact outcomeGet (by first | omega | (simp only [fillTo_len]; omega) | grind) | exact datumGet (by first | omega | (simp only [fillTo_len]; omega) | grind) | exact coreGet (by first | omega | (simp only [fillTo_len]; omega) | grind) | exact congrArg (Ob.arr true _) (fill_step (by first | omega | (simp only [fillTo_len]; omega) | grind) (by first | rfl | exact outcomeC_eq _ | exact datumC_eq _ | exact coreC_eq _)) | exact congrArg (Ob.arr true _) (fill_init (by first | rfl | exact outcomeC_eq _ | exact datumC_eq _ | exact coreC_eq _)) | grind [take_eq, getD_mem']))
theorem run_c_iEqualData_s (a : Datum) (b : Datum) : aexec Try.prog (Option.getD (Func.body Try.f69) Code.skip) (entry [] [datumA a, datumA b] 53) [Orc.br [Orc.bool true, Orc.bool
 true, Orc.bool true, Orc.fin []] [Orc.br [Orc.bool true, Orc.bool true, Orc.fin []] [Orc.br [Orc.bool true, Orc.fin []] [Orc.br [Orc.fin []] [Orc.ghost (Ghost.sel [0, 1] [2, 3,
 36, 37]), Orc.loop (List.length (Datum.items a) - 0) (Lc_iEqualData_sLa a b 0) (Ic_iEqualData_sLa a b) [(Datum.items a = Datum.items b, AEx.exit 0, W0c_iEqualData_sLa a b,
 [Orc.fin []]), (Datum.items a ≠ Datum.items b, AEx.ret, W1c_iEqualData_sLa a b (lb false), [Orc.fin []])]]]]]] (finK Try.prog [ResultVar.tmp 4] [] (AV.sv (lb (decide (a = b))))) =
 ((decide (Datum.kind a ≠ Datum.kind b) = true → true = true ∧ true = true ∧ true = true ∧ ObsEq [] [] ∧ AV.sv (lb false) = AV.sv (lb (decide (a = b)))) ∧ (decide (Datum.kind a ≠
 Datum.kind b) = false → (decide (Datum.number a ≠ Datum.number b) = true → true = true ∧ true = true ∧ ObsEq [] [] ∧ AV.sv (lb false) = AV.sv (lb (decide (a = b)))) ∧ (decide
 (Datum.number a ≠ Datum.number b) = false → (decide (Array.toList (ByteArray.data (Datum.text a)) ≠ Array.toList (ByteArray.data (Datum.text b))) = true → true = true ∧ ObsEq []
 [] ∧ AV.sv (lb false) = AV.sv (lb (decide (a = b)))) ∧ (decide (Array.toList (ByteArray.data (Datum.text a)) ≠ Array.toList (ByteArray.data (Datum.text b))) = false → List.length
 (List.map datumC (Datum.items a)) ≤ 9223372036854775807 → List.length (List.map datumC (Datum.items b)) ≤ 9223372036854775807 → (decide ((↑(List.length (List.map datumC
 (Datum.items a))) : Int) ≠ (↑(List.length (List.map datumC (Datum.items b))) : Int)) = true → ObsEq [] [] ∧ AV.sv (lb false) = AV.sv (lb (decide (a = b)))) ∧ (decide
 ((↑(List.length (List.map datumC (Datum.items a))) : Int) ≠ (↑(List.length (List.map datumC (Datum.items b))) : Int)) = false → List.length (List.map datumC (Datum.items a)) ≤
 9223372036854775807 → Tc_iEqualData_sLa a b (li 0) = Lc_iEqualData_sLa a b 0 ∧ Ic_iEqualData_sLa a b (List.length (Datum.items a) - 0) (Lc_iEqualData_sLa a b 0) ∧ LoopSem Try.prog
 (loopAt Try.f69 0) (Ic_iEqualData_sLa a b) (Yc_iEqualData_sLa a b) ∧ (Datum.items a = Datum.items b → ObsEq [] [] ∧ AV.sv (lb true) = AV.sv (lb (decide (a = b)))) ∧ ((Datum.items
 a = Datum.items b → False) → ObsEq [] [] ∧ AV.sv (lb false) = AV.sv (lb (decide (a = b)))) ∧ True))))) := by kernel_rfl
theorem c_iEqualData_s (a b : Datum) (ih : ∀ z ∈ a.items, ∀ (b : Datum), CallOK Try.prog 69 [] [datumA z, datumA b] [] (.sv (lb (decide (z = b)))))  : CallOK Try.prog 69 [] [datumA
 a, datumA b] [] (.sv (lb (decide (a = b)))) := by
  refine CallOK.ofRun wide (run_c_iEqualData_s a b) Try.call69 Try.func69 rfl rfl rfl ?_
  simp only [datumExt]
  with_reducible repeat' (first | apply And.intro | (intro; skip) | apply Hc_iEqualData_sLa | apply Ec_iEqualData_sLa | apply Sc_iEqualData_sLa)
  all_goals (try simp only [size_list, List.length_map, Int.toNat_natCast, rng64, obsEq_iff, List.length_append, List.length_replicate, fillTo_len, decide_eq_true_eq, decide_eq_false_iff_not, ne_eq, lb_inj, li_inj, ls_inj, mk_toArray, tx_mkS, mkS_inj, size_mkS] at *)
  all_goals (try (first | with_reducible rfl | omega | assumption | exact getC (by first | omega | (simp only [fillTo_len]; omega) | grind) rfl | exact outcomeGet (by first | omega | (simp only [fillTo_len]; omega) | grind) | exact datumGet (by first | omega | (simp only [fillTo_len]; omega) | grind) | exact coreGet (by first | omega | (simp only [fillTo_len]; omega) | grind) | exact congrArg (Ob.arr true _) (fill_step (by first | omega | (simp only [fillTo_len]; omega) | grind) (by first | rfl | exact outcomeC_eq _ | exact datumC_eq _ | exact coreC_eq _)) | exact congrArg (Ob.arr true _) (fill_init (by first | rfl | exact outcomeC_eq _ | exact datumC_eq _ | exact coreC_eq _)) | grind [bytes_ext]))

theorem c_iEqualData (a : Datum) : ∀ (b : Datum), CallOK Try.prog 69 [] [datumA a, datumA b] [] (.sv (lb (decide (a = b)))) := Datum.ind (P := fun a => ∀ (b : Datum), CallOK Try.prog 69 [] [datumA a, datumA b] [] (.sv (lb (decide (a = b))))) (fun a ih b => c_iEqualData_s a b ih) a

def Tc_sEqualCores_sLa (a : Core) (b : Core) (x0 : SV) : St := St.mk (regsOf 62 [(2, AV.sv (SV.one (AC.ptr 0 0))), (3, AV.sv (SV.one (AC.ptr 1 0))), (45, AV.sv (li (↑(List.length
 (List.map coreC (Core.kids a))) : Int))), (46, AV.sv x0)]) [Ob.box (vals (coreF a)), Ob.box (vals (coreF b))] 0 
def Lc_sEqualCores_sLa (a : Core) (b : Core) (k : Nat) : St := Tc_sEqualCores_sLa a b (li (↑k : Int)) 
def Ic_sEqualCores_sLa (a : Core) (b : Core) : Nat → St → Prop := Head (Lc_sEqualCores_sLa a b) (fun k => k ≤ List.length (Core.kids a) ∧ List.length (Core.kids a) ≤
 9223372036854775807 ∧ List.length (Core.kids a) = List.length (Core.kids b) ∧ List.take k (Core.kids a) = List.take k (Core.kids b)) fun k => List.length (Core.kids a) - k 
def W0c_sEqualCores_sLa (a : Core) (b : Core) : St := St.mk (regsOf 62 []) [] 0 
def W1c_sEqualCores_sLa (a : Core) (b : Core) (x0 : SV) : St := St.mk (regsOf 62 [(4, AV.sv x0)]) [] 0 
def Yc_sEqualCores_sLa (a : Core) (b : Core) : List (Prop × AEx × St) := [(Core.kids a = Core.kids b, AEx.exit 0, W0c_sEqualCores_sLa a b), (Core.kids a ≠ Core.kids b, AEx.ret,
 W1c_sEqualCores_sLa a b (lb false))]
theorem Hc_sEqualCores_sLa {a : Core} {b : Core} {k : Nat} {m : Nat} (h : (fun k => k ≤ List.length (Core.kids a) ∧ List.length (Core.kids a) ≤ 9223372036854775807 ∧ List.length
 (Core.kids a) = List.length (Core.kids b) ∧ List.take k (Core.kids a) = List.take k (Core.kids b)) k) (hm : (fun k => List.length (Core.kids a) - k) k = m) : Ic_sEqualCores_sLa a
 b m (Lc_sEqualCores_sLa a b k) := hm ▸ Head.mk h
theorem Ec_sEqualCores_sLa {a : Core} {b : Core} {k : Nat} {x0 : SV} (h0 : x0 = (li (↑k : Int))) : Tc_sEqualCores_sLa a b x0 = Lc_sEqualCores_sLa a b k := by (rw [h0]; rfl)
theorem run_c_sEqualCores_sLa (a : Core) (b : Core) (k : Nat) : aexec Try.prog (loopAt Try.f37 0) (Lc_sEqualCores_sLa a b k) [Orc.br [Orc.draw [], Orc.cells (coreF (List.getD
 (Core.kids a) k default)), Orc.cells (coreF (List.getD (Core.kids b) k default)), Orc.call [Mode.rd, Mode.rd] [] (AV.sv (lb (decide (List.getD (Core.kids a) k default = List.getD
 (Core.kids b) k default)))), Orc.br [Orc.ghost (Ghost.sel [] [4]), Orc.out 1] [Orc.ghost (Ghost.sel [0, 1] [2, 3, 45, 46]), Orc.goto (List.length (Core.kids a) - (k + 1))
 (Lc_sEqualCores_sLa a b (k + 1))]] [Orc.ghost (Ghost.sel [] []), Orc.out 0]] (loopK (Ic_sEqualCores_sLa a b) (Yc_sEqualCores_sLa a b) (List.length (Core.kids a) - k)) = ((decide
 ((↑k : Int) < (↑(List.length (List.map coreC (Core.kids a))) : Int)) = true → (0 ≤ (↑k : Int) ∧ (List.map coreC (Core.kids a))[Int.toNat (↑k : Int)]? = some (coreF (List.getD
 (Core.kids a) k default))) ∧ (0 ≤ (↑k : Int) ∧ (List.map coreC (Core.kids b))[Int.toNat (↑k : Int)]? = some (coreF (List.getD (Core.kids b) k default))) ∧ CallOK Try.prog 37 []
 [coreA (List.getD (Core.kids a) k default), coreA (List.getD (Core.kids b) k default)] [] (AV.sv (lb (decide (List.getD (Core.kids a) k default = List.getD (Core.kids b) k
 default)))) ∧ ((!decide (List.getD (Core.kids a) k default = List.getD (Core.kids b) k default)) = true → Core.kids a ≠ Core.kids b ∧ W1c_sEqualCores_sLa a b (lb false) =
 W1c_sEqualCores_sLa a b (lb false)) ∧ ((!decide (List.getD (Core.kids a) k default = List.getD (Core.kids b) k default)) = false → rng IntKind.i64 ((↑k : Int) + 1) ∧ List.length
 (Core.kids a) - (k + 1) < List.length (Core.kids a) - k ∧ Tc_sEqualCores_sLa a b (li ((↑k : Int) + 1)) = Lc_sEqualCores_sLa a b (k + 1) ∧ Ic_sEqualCores_sLa a b (List.length
 (Core.kids a) - (k + 1)) (Lc_sEqualCores_sLa a b (k + 1)))) ∧ (decide ((↑k : Int) < (↑(List.length (List.map coreC (Core.kids a))) : Int)) = false → Core.kids a = Core.kids b ∧
 W0c_sEqualCores_sLa a b = W0c_sEqualCores_sLa a b)) := by kernel_rfl
theorem Sc_sEqualCores_sLa (a : Core) (b : Core) (ih : ∀ (z : Core), z ∈ Core.kids a → ∀ (b : Core), CallOK Try.prog 37 [] [coreA z, coreA b] [] (AV.sv (lb (decide (z = b)))))  :
 LoopSem Try.prog (loopAt Try.f37 0) (Ic_sEqualCores_sLa a b) (Yc_sEqualCores_sLa a b) := by
  refine LoopSem.ofHead wide fun k h => ⟨_, _, run_c_sEqualCores_sLa a b k, ?_⟩
  with_reducible repeat' (first | apply And.intro | (intro; skip) | apply Hc_sEqualCores_sLa | apply Ec_sEqualCores_sLa | apply c_sSameInts | apply c_sEqualData | apply ih)
  all_goals (try simp only [size_list, List.length_map, Int.toNat_natCast, rng64, obsEq_iff, List.length_append, List.length_replicate, fillTo_len, decide_eq_true_eq, decide_eq_false_iff_not, ne_eq, lb_inj, li_inj, ls_inj, mk_toArray, tx_mkS, mkS_inj, size_mkS] at *)
  all_goals (try (first | with_reducible rfl | omega | assumption | exact getC (by first | omega | (simp only [fillTo_len]; omega) | grind) rfl | exact outcomeGet (by first | omega | (simp only [fillTo_len]; omega) | grind) | exact datumGet (by first | omega | (simp only [fillTo_len]; omega) | grind) | exact coreGet (by first | omega | (simp only [fillTo_len]; omega) | grind) | exact congrArg (Ob.arr true _) (fill_step (by first | omega | (simp only [fillTo_len]; omega) | grind) (by first | rfl | exact outcomeC_eq _ | exact datumC_eq _ | exact coreC_eq _)) | exact congrArg (Ob.arr true _) (fill_init (by first | rfl | exact outcomeC_eq _ | exact datumC_eq _ | exact coreC_eq _)) | grind [take_eq, getD_mem']))
theorem run_c_sEqualCores_s (a : Core) (b : Core) : aexec Try.prog (Option.getD (Func.body Try.f37) Code.skip) (entry [] [coreA a, coreA b] 62) [Orc.br [Orc.bool true, Orc.bool
 true, Orc.bool true, Orc.bool true, Orc.fin []] [Orc.br [Orc.bool true, Orc.bool true, Orc.bool true, Orc.fin []] [Orc.call [Mode.rd, Mode.rd] [] (AV.sv (lb (decide (Core.params a
 = Core.params b)))), Orc.br [Orc.bool true, Orc.bool true, Orc.fin []] [Orc.call [Mode.rd, Mode.rd] [] (AV.sv (lb (decide (Core.datum a = Core.datum b)))), Orc.br [Orc.bool true,
 Orc.fin []] [Orc.br [Orc.fin []] [Orc.ghost (Ghost.sel [0, 1] [2, 3, 45, 46]), Orc.loop (List.length (Core.kids a) - 0) (Lc_sEqualCores_sLa a b 0) (Ic_sEqualCores_sLa a b)
 [(Core.kids a = Core.kids b, AEx.exit 0, W0c_sEqualCores_sLa a b, [Orc.fin []]), (Core.kids a ≠ Core.kids b, AEx.ret, W1c_sEqualCores_sLa a b (lb false), [Orc.fin []])]]]]]]]
 (finK Try.prog [ResultVar.tmp 4] [] (AV.sv (lb (decide (a = b))))) = ((decide (Core.kind a ≠ Core.kind b) = true → true = true ∧ true = true ∧ true = true ∧ true = true ∧ ObsEq []
 [] ∧ AV.sv (lb false) = AV.sv (lb (decide (a = b)))) ∧ (decide (Core.kind a ≠ Core.kind b) = false → (decide (Core.number a ≠ Core.number b) = true → true = true ∧ true = true ∧
 true = true ∧ ObsEq [] [] ∧ AV.sv (lb false) = AV.sv (lb (decide (a = b)))) ∧ (decide (Core.number a ≠ Core.number b) = false → CallOK Try.prog 66 [] [ll (List.map intC
 (Core.params a)), ll (List.map intC (Core.params b))] [] (AV.sv (lb (decide (Core.params a = Core.params b)))) ∧ ((!decide (Core.params a = Core.params b)) = true → true = true ∧
 true = true ∧ ObsEq [] [] ∧ AV.sv (lb false) = AV.sv (lb (decide (a = b)))) ∧ ((!decide (Core.params a = Core.params b)) = false → CallOK Try.prog 67 [] [datumA (Core.datum a),
 datumA (Core.datum b)] [] (AV.sv (lb (decide (Core.datum a = Core.datum b)))) ∧ ((!decide (Core.datum a = Core.datum b)) = true → true = true ∧ ObsEq [] [] ∧ AV.sv (lb false) =
 AV.sv (lb (decide (a = b)))) ∧ ((!decide (Core.datum a = Core.datum b)) = false → List.length (List.map coreC (Core.kids a)) ≤ 9223372036854775807 → List.length (List.map coreC
 (Core.kids b)) ≤ 9223372036854775807 → (decide ((↑(List.length (List.map coreC (Core.kids a))) : Int) ≠ (↑(List.length (List.map coreC (Core.kids b))) : Int)) = true → ObsEq [] []
 ∧ AV.sv (lb false) = AV.sv (lb (decide (a = b)))) ∧ (decide ((↑(List.length (List.map coreC (Core.kids a))) : Int) ≠ (↑(List.length (List.map coreC (Core.kids b))) : Int)) = false
 → List.length (List.map coreC (Core.kids a)) ≤ 9223372036854775807 → Tc_sEqualCores_sLa a b (li 0) = Lc_sEqualCores_sLa a b 0 ∧ Ic_sEqualCores_sLa a b (List.length (Core.kids a) -
 0) (Lc_sEqualCores_sLa a b 0) ∧ LoopSem Try.prog (loopAt Try.f37 0) (Ic_sEqualCores_sLa a b) (Yc_sEqualCores_sLa a b) ∧ (Core.kids a = Core.kids b → ObsEq [] [] ∧ AV.sv (lb true)
 = AV.sv (lb (decide (a = b)))) ∧ ((Core.kids a = Core.kids b → False) → ObsEq [] [] ∧ AV.sv (lb false) = AV.sv (lb (decide (a = b)))) ∧ True)))))) := by kernel_rfl
theorem c_sEqualCores_s (a b : Core) (ih : ∀ z ∈ a.kids, ∀ (b : Core), CallOK Try.prog 37 [] [coreA z, coreA b] [] (.sv (lb (decide (z = b)))))  : CallOK Try.prog 37 [] [coreA a,
 coreA b] [] (.sv (lb (decide (a = b)))) := by
  refine CallOK.ofRun wide (run_c_sEqualCores_s a b) Try.call37 Try.func37 rfl rfl rfl ?_
  simp only [coreExt]
  with_reducible repeat' (first | apply And.intro | (intro; skip) | apply Hc_sEqualCores_sLa | apply Ec_sEqualCores_sLa | apply Sc_sEqualCores_sLa | apply c_sSameInts | apply c_sEqualData)
  all_goals (try simp only [size_list, List.length_map, Int.toNat_natCast, rng64, obsEq_iff, List.length_append, List.length_replicate, fillTo_len, decide_eq_true_eq, decide_eq_false_iff_not, ne_eq, lb_inj, li_inj, ls_inj, mk_toArray, tx_mkS, mkS_inj, size_mkS] at *)
  all_goals (try (first | with_reducible rfl | omega | assumption | exact getC (by first | omega | (simp only [fillTo_len]; omega) | grind) rfl | exact outcomeGet (by first | omega | (simp only [fillTo_len]; omega) | grind) | exact datumGet (by first | omega | (simp only [fillTo_len]; omega) | grind) | exact coreGet (by first | omega | (simp only [fillTo_len]; omega) | grind) | exact congrArg (Ob.arr true _) (fill_step (by first | omega | (simp only [fillTo_len]; omega) | grind) (by first | rfl | exact outcomeC_eq _ | exact datumC_eq _ | exact coreC_eq _)) | exact congrArg (Ob.arr true _) (fill_init (by first | rfl | exact outcomeC_eq _ | exact datumC_eq _ | exact coreC_eq _)) | grind [bytes_ext]))

theorem c_sEqualCores (a : Core) : ∀ (b : Core), CallOK Try.prog 37 [] [coreA a, coreA b] [] (.sv (lb (decide (a = b)))) := Core.ind (P := fun a => ∀ (b : Core), CallOK Try.prog 37 [] [coreA a, coreA b] [] (.sv (lb (decide (a = b))))) (fun a ih b => c_sEqualCores_s a b ih) a
def Tc_iEqualCores_sLa (a : Core) (b : Core) (x0 : SV) : St := St.mk (regsOf 62 [(2, AV.sv (SV.one (AC.ptr 0 0))), (3, AV.sv (SV.one (AC.ptr 1 0))), (45, AV.sv (li (↑(List.length
 (List.map coreC (Core.kids a))) : Int))), (46, AV.sv x0)]) [Ob.box (vals (coreF a)), Ob.box (vals (coreF b))] 0 
def Lc_iEqualCores_sLa (a : Core) (b : Core) (k : Nat) : St := Tc_iEqualCores_sLa a b (li (↑k : Int)) 
def Ic_iEqualCores_sLa (a : Core) (b : Core) : Nat → St → Prop := Head (Lc_iEqualCores_sLa a b) (fun k => k ≤ List.length (Core.kids a) ∧ List.length (Core.kids a) ≤
 9223372036854775807 ∧ List.length (Core.kids a) = List.length (Core.kids b) ∧ List.take k (Core.kids a) = List.take k (Core.kids b)) fun k => List.length (Core.kids a) - k 
def W0c_iEqualCores_sLa (a : Core) (b : Core) : St := St.mk (regsOf 62 []) [] 0 
def W1c_iEqualCores_sLa (a : Core) (b : Core) (x0 : SV) : St := St.mk (regsOf 62 [(4, AV.sv x0)]) [] 0 
def Yc_iEqualCores_sLa (a : Core) (b : Core) : List (Prop × AEx × St) := [(Core.kids a = Core.kids b, AEx.exit 0, W0c_iEqualCores_sLa a b), (Core.kids a ≠ Core.kids b, AEx.ret,
 W1c_iEqualCores_sLa a b (lb false))]
theorem Hc_iEqualCores_sLa {a : Core} {b : Core} {k : Nat} {m : Nat} (h : (fun k => k ≤ List.length (Core.kids a) ∧ List.length (Core.kids a) ≤ 9223372036854775807 ∧ List.length
 (Core.kids a) = List.length (Core.kids b) ∧ List.take k (Core.kids a) = List.take k (Core.kids b)) k) (hm : (fun k => List.length (Core.kids a) - k) k = m) : Ic_iEqualCores_sLa a
 b m (Lc_iEqualCores_sLa a b k) := hm ▸ Head.mk h
theorem Ec_iEqualCores_sLa {a : Core} {b : Core} {k : Nat} {x0 : SV} (h0 : x0 = (li (↑k : Int))) : Tc_iEqualCores_sLa a b x0 = Lc_iEqualCores_sLa a b k := by (rw [h0]; rfl)
theorem run_c_iEqualCores_sLa (a : Core) (b : Core) (k : Nat) : aexec Try.prog (loopAt Try.f38 0) (Lc_iEqualCores_sLa a b k) [Orc.br [Orc.draw [], Orc.cells (coreF (List.getD
 (Core.kids a) k default)), Orc.cells (coreF (List.getD (Core.kids b) k default)), Orc.call [Mode.rd, Mode.rd] [] (AV.sv (lb (decide (List.getD (Core.kids a) k default = List.getD
 (Core.kids b) k default)))), Orc.br [Orc.ghost (Ghost.sel [] [4]), Orc.out 1] [Orc.ghost (Ghost.sel [0, 1] [2, 3, 45, 46]), Orc.goto (List.length (Core.kids a) - (k + 1))
 (Lc_iEqualCores_sLa a b (k + 1))]] [Orc.ghost (Ghost.sel [] []), Orc.out 0]] (loopK (Ic_iEqualCores_sLa a b) (Yc_iEqualCores_sLa a b) (List.length (Core.kids a) - k)) = ((decide
 ((↑k : Int) < (↑(List.length (List.map coreC (Core.kids a))) : Int)) = true → (0 ≤ (↑k : Int) ∧ (List.map coreC (Core.kids a))[Int.toNat (↑k : Int)]? = some (coreF (List.getD
 (Core.kids a) k default))) ∧ (0 ≤ (↑k : Int) ∧ (List.map coreC (Core.kids b))[Int.toNat (↑k : Int)]? = some (coreF (List.getD (Core.kids b) k default))) ∧ CallOK Try.prog 38 []
 [coreA (List.getD (Core.kids a) k default), coreA (List.getD (Core.kids b) k default)] [] (AV.sv (lb (decide (List.getD (Core.kids a) k default = List.getD (Core.kids b) k
 default)))) ∧ ((!decide (List.getD (Core.kids a) k default = List.getD (Core.kids b) k default)) = true → Core.kids a ≠ Core.kids b ∧ W1c_iEqualCores_sLa a b (lb false) =
 W1c_iEqualCores_sLa a b (lb false)) ∧ ((!decide (List.getD (Core.kids a) k default = List.getD (Core.kids b) k default)) = false → rng IntKind.i64 ((↑k : Int) + 1) ∧ List.length
 (Core.kids a) - (k + 1) < List.length (Core.kids a) - k ∧ Tc_iEqualCores_sLa a b (li ((↑k : Int) + 1)) = Lc_iEqualCores_sLa a b (k + 1) ∧ Ic_iEqualCores_sLa a b (List.length
 (Core.kids a) - (k + 1)) (Lc_iEqualCores_sLa a b (k + 1)))) ∧ (decide ((↑k : Int) < (↑(List.length (List.map coreC (Core.kids a))) : Int)) = false → Core.kids a = Core.kids b ∧
 W0c_iEqualCores_sLa a b = W0c_iEqualCores_sLa a b)) := by kernel_rfl
theorem Sc_iEqualCores_sLa (a : Core) (b : Core) (ih : ∀ (z : Core), z ∈ Core.kids a → ∀ (b : Core), CallOK Try.prog 38 [] [coreA z, coreA b] [] (AV.sv (lb (decide (z = b)))))  :
 LoopSem Try.prog (loopAt Try.f38 0) (Ic_iEqualCores_sLa a b) (Yc_iEqualCores_sLa a b) := by
  refine LoopSem.ofHead wide fun k h => ⟨_, _, run_c_iEqualCores_sLa a b k, ?_⟩
  with_reducible repeat' (first | apply And.intro | (intro; skip) | apply Hc_iEqualCores_sLa | apply Ec_iEqualCores_sLa | apply c_iSameInts | apply c_iEqualData | apply ih)
  all_goals (try simp only [size_list, List.length_map, Int.toNat_natCast, rng64, obsEq_iff, List.length_append, List.length_replicate, fillTo_len, decide_eq_true_eq, decide_eq_false_iff_not, ne_eq, lb_inj, li_inj, ls_inj, mk_toArray, tx_mkS, mkS_inj, size_mkS] at *)
  all_goals (try (first | with_reducible rfl | omega | assumption | exact getC (by first | omega | (simp only [fillTo_len]; omega) | grind) rfl | exact outcomeGet (by first | omega | (simp only [fillTo_len]; omega) | grind) | exact datumGet (by first | omega | (simp only [fillTo_len]; omega) | grind) | exact coreGet (by first | omega | (simp only [fillTo_len]; omega) | grind) | exact congrArg (Ob.arr true _) (fill_step (by first | omega | (simp only [fillTo_len]; omega) | grind) (by first | rfl | exact outcomeC_eq _ | exact datumC_eq _ | exact coreC_eq _)) | exact congrArg (Ob.arr true _) (fill_init (by first | rfl | exact outcomeC_eq _ | exact datumC_eq _ | exact coreC_eq _)) | grind [take_eq, getD_mem']))
theorem run_c_iEqualCores_s (a : Core) (b : Core) : aexec Try.prog (Option.getD (Func.body Try.f38) Code.skip) (entry [] [coreA a, coreA b] 62) [Orc.br [Orc.bool true, Orc.bool
 true, Orc.bool true, Orc.bool true, Orc.fin []] [Orc.br [Orc.bool true, Orc.bool true, Orc.bool true, Orc.fin []] [Orc.call [Mode.rd, Mode.rd] [] (AV.sv (lb (decide (Core.params a
 = Core.params b)))), Orc.br [Orc.bool true, Orc.bool true, Orc.fin []] [Orc.call [Mode.rd, Mode.rd] [] (AV.sv (lb (decide (Core.datum a = Core.datum b)))), Orc.br [Orc.bool true,
 Orc.fin []] [Orc.br [Orc.fin []] [Orc.ghost (Ghost.sel [0, 1] [2, 3, 45, 46]), Orc.loop (List.length (Core.kids a) - 0) (Lc_iEqualCores_sLa a b 0) (Ic_iEqualCores_sLa a b)
 [(Core.kids a = Core.kids b, AEx.exit 0, W0c_iEqualCores_sLa a b, [Orc.fin []]), (Core.kids a ≠ Core.kids b, AEx.ret, W1c_iEqualCores_sLa a b (lb false), [Orc.fin []])]]]]]]]
 (finK Try.prog [ResultVar.tmp 4] [] (AV.sv (lb (decide (a = b))))) = ((decide (Core.kind a ≠ Core.kind b) = true → true = true ∧ true = true ∧ true = true ∧ true = true ∧ ObsEq []
 [] ∧ AV.sv (lb false) = AV.sv (lb (decide (a = b)))) ∧ (decide (Core.kind a ≠ Core.kind b) = false → (decide (Core.number a ≠ Core.number b) = true → true = true ∧ true = true ∧
 true = true ∧ ObsEq [] [] ∧ AV.sv (lb false) = AV.sv (lb (decide (a = b)))) ∧ (decide (Core.number a ≠ Core.number b) = false → CallOK Try.prog 68 [] [ll (List.map intC
 (Core.params a)), ll (List.map intC (Core.params b))] [] (AV.sv (lb (decide (Core.params a = Core.params b)))) ∧ ((!decide (Core.params a = Core.params b)) = true → true = true ∧
 true = true ∧ ObsEq [] [] ∧ AV.sv (lb false) = AV.sv (lb (decide (a = b)))) ∧ ((!decide (Core.params a = Core.params b)) = false → CallOK Try.prog 69 [] [datumA (Core.datum a),
 datumA (Core.datum b)] [] (AV.sv (lb (decide (Core.datum a = Core.datum b)))) ∧ ((!decide (Core.datum a = Core.datum b)) = true → true = true ∧ ObsEq [] [] ∧ AV.sv (lb false) =
 AV.sv (lb (decide (a = b)))) ∧ ((!decide (Core.datum a = Core.datum b)) = false → List.length (List.map coreC (Core.kids a)) ≤ 9223372036854775807 → List.length (List.map coreC
 (Core.kids b)) ≤ 9223372036854775807 → (decide ((↑(List.length (List.map coreC (Core.kids a))) : Int) ≠ (↑(List.length (List.map coreC (Core.kids b))) : Int)) = true → ObsEq [] []
 ∧ AV.sv (lb false) = AV.sv (lb (decide (a = b)))) ∧ (decide ((↑(List.length (List.map coreC (Core.kids a))) : Int) ≠ (↑(List.length (List.map coreC (Core.kids b))) : Int)) = false
 → List.length (List.map coreC (Core.kids a)) ≤ 9223372036854775807 → Tc_iEqualCores_sLa a b (li 0) = Lc_iEqualCores_sLa a b 0 ∧ Ic_iEqualCores_sLa a b (List.length (Core.kids a) -
 0) (Lc_iEqualCores_sLa a b 0) ∧ LoopSem Try.prog (loopAt Try.f38 0) (Ic_iEqualCores_sLa a b) (Yc_iEqualCores_sLa a b) ∧ (Core.kids a = Core.kids b → ObsEq [] [] ∧ AV.sv (lb true)
 = AV.sv (lb (decide (a = b)))) ∧ ((Core.kids a = Core.kids b → False) → ObsEq [] [] ∧ AV.sv (lb false) = AV.sv (lb (decide (a = b)))) ∧ True)))))) := by kernel_rfl
theorem c_iEqualCores_s (a b : Core) (ih : ∀ z ∈ a.kids, ∀ (b : Core), CallOK Try.prog 38 [] [coreA z, coreA b] [] (.sv (lb (decide (z = b)))))  : CallOK Try.prog 38 [] [coreA a,
 coreA b] [] (.sv (lb (decide (a = b)))) := by
  refine CallOK.ofRun wide (run_c_iEqualCores_s a b) Try.call38 Try.func38 rfl rfl rfl ?_
  simp only [coreExt]
  with_reducible repeat' (first | apply And.intro | (intro; skip) | apply Hc_iEqualCores_sLa | apply Ec_iEqualCores_sLa | apply Sc_iEqualCores_sLa | apply c_iSameInts | apply c_iEqualData)
  all_goals (try simp only [size_list, List.length_map, Int.toNat_natCast, rng64, obsEq_iff, List.length_append, List.length_replicate, fillTo_len, decide_eq_true_eq, decide_eq_false_iff_not, ne_eq, lb_inj, li_inj, ls_inj, mk_toArray, tx_mkS, mkS_inj, size_mkS] at *)
  all_goals (try (first | with_reducible rfl | omega | assumption | exact getC (by first | omega | (simp only [fillTo_len]; omega) | grind) rfl | exact outcomeGet (by first | omega | (simp only [fillTo_len]; omega) | grind) | exact datumGet (by first | omega | (simp only [fillTo_len]; omega) | grind) | exact coreGet (by first | omega | (simp only [fillTo_len]; omega) | grind) | exact congrArg (Ob.arr true _) (fill_step (by first | omega | (simp only [fillTo_len]; omega) | grind) (by first | rfl | exact outcomeC_eq _ | exact datumC_eq _ | exact coreC_eq _)) | exact congrArg (Ob.arr true _) (fill_init (by first | rfl | exact outcomeC_eq _ | exact datumC_eq _ | exact coreC_eq _)) | grind [bytes_ext]))

theorem c_iEqualCores (a : Core) : ∀ (b : Core), CallOK Try.prog 38 [] [coreA a, coreA b] [] (.sv (lb (decide (a = b)))) := Core.ind (P := fun a => ∀ (b : Core), CallOK Try.prog 38 [] [coreA a, coreA b] [] (.sv (lb (decide (a = b))))) (fun a ih b => c_iEqualCores_s a b ih) a

theorem run_c_LDepth (a : Core) : aexec Try.prog (Option.getD (Func.body Try.f9) Code.skip) (entry [] [coreA a] 27) [Orc.call [Mode.rd, Mode.rd] [] (AV.sv (li (sz (wC a)
 1048576))), Orc.br [Orc.fin []] [Orc.call [Mode.rd] [Ob.arr true 1 (List.map intC (Core.params a)), Ob.arr true 4 (List.map datumC (Datum.items (Core.datum a))), Ob.arr true 8
 (List.map coreC (Core.kids a))] (AV.sv (SV.agg [vI (Core.kind a), vI (Core.number a), AC.ref 0, vI (Datum.kind (Core.datum a)), vI (Datum.number (Core.datum a)), vS (Datum.text
 (Core.datum a)), AC.ref 1, AC.ref 2])), Orc.call [Mode.rd] [] (AV.sv (li (↑(depthC a) : Int))), Orc.call [Mode.rd] [Ob.arr true 1 (List.map intC (Core.params a)), Ob.arr true 4
 (List.map datumC (Datum.items (Core.datum a))), Ob.arr true 8 (List.map coreC (Core.kids a))] (AV.sv (SV.agg [vI (Core.kind a), vI (Core.number a), AC.ref 0, vI (Datum.kind
 (Core.datum a)), vI (Datum.number (Core.datum a)), vS (Datum.text (Core.datum a)), AC.ref 1, AC.ref 2])), Orc.call [Mode.rd] [] (AV.sv (li (↑(depthC a) : Int))), Orc.br [Orc.fin
 []] [Orc.draw [], Orc.call [Mode.rd] [Ob.arr true 1 (List.map intC (Core.params a)), Ob.arr true 4 (List.map datumC (Datum.items (Core.datum a))), Ob.arr true 8 (List.map coreC
 (Core.kids a))] (AV.sv (SV.agg [vI (Core.kind a), vI (Core.number a), AC.ref 0, vI (Datum.kind (Core.datum a)), vI (Datum.number (Core.datum a)), vS (Datum.text (Core.datum a)),
 AC.ref 1, AC.ref 2])), Orc.call [Mode.rd, Mode.rd] [] (AV.sv (lb (decide (a = a)))), Orc.br [Orc.fin []] [Orc.fin []]]]] (finK Try.prog [ResultVar.tmp 2] [] (AV.sv (lb true))) =
 (CallOK Try.prog 30 [] [coreA a, li 1048576] [] (AV.sv (li (sz (wC a) 1048576))) ∧ (decide (sz (wC a) 1048576 < 0) = true → ObsEq [] [] ∧ AV.sv (lb true) = AV.sv (lb true)) ∧
 (decide (sz (wC a) 1048576 < 0) = false → CallOK Try.prog 32 [] [coreA a] [Ob.arr true 1 (List.map intC (Core.params a)), Ob.arr true 4 (List.map datumC (Datum.items (Core.datum
 a))), Ob.arr true 8 (List.map coreC (Core.kids a))] (AV.sv (SV.agg [vI (Core.kind a), vI (Core.number a), AC.ref 0, vI (Datum.kind (Core.datum a)), vI (Datum.number (Core.datum
 a)), vS (Datum.text (Core.datum a)), AC.ref 1, AC.ref 2])) ∧ CallOK Try.prog 31 [] [coreA a] [] (AV.sv (li (↑(depthC a) : Int))) ∧ CallOK Try.prog 32 [] [coreA a] [Ob.arr true 1
 (List.map intC (Core.params a)), Ob.arr true 4 (List.map datumC (Datum.items (Core.datum a))), Ob.arr true 8 (List.map coreC (Core.kids a))] (AV.sv (SV.agg [vI (Core.kind a), vI
 (Core.number a), AC.ref 0, vI (Datum.kind (Core.datum a)), vI (Datum.number (Core.datum a)), vS (Datum.text (Core.datum a)), AC.ref 1, AC.ref 2])) ∧ CallOK Try.prog 33 [] [coreA
 a] [] (AV.sv (li (↑(depthC a) : Int))) ∧ (decide ((↑(depthC a) : Int) ≠ (↑(depthC a) : Int)) = true → ObsEq [] [] ∧ AV.sv (lb false) = AV.sv (lb true)) ∧ (decide ((↑(depthC a) :
 Int) ≠ (↑(depthC a) : Int)) = false → CallOK Try.prog 32 [] [coreA a] [Ob.arr true 1 (List.map intC (Core.params a)), Ob.arr true 4 (List.map datumC (Datum.items (Core.datum a))),
 Ob.arr true 8 (List.map coreC (Core.kids a))] (AV.sv (SV.agg [vI (Core.kind a), vI (Core.number a), AC.ref 0, vI (Datum.kind (Core.datum a)), vI (Datum.number (Core.datum a)), vS
 (Datum.text (Core.datum a)), AC.ref 1, AC.ref 2])) ∧ CallOK Try.prog 34 [] [coreA a, coreA a] [] (AV.sv (lb (decide (a = a)))) ∧ ((!decide (a = a)) = true → ObsEq [] [] ∧ AV.sv
 (lb false) = AV.sv (lb true)) ∧ ((!decide (a = a)) = false → ObsEq [] [] ∧ AV.sv (lb true) = AV.sv (lb true))))) := by kernel_rfl
theorem c_LDepth (a : Core)  : CallOK Try.prog 9 [] [coreA a] [] (.sv (lb true)) := by
  refine CallOK.ofRun wide (run_c_LDepth a) Try.call9 Try.func9 rfl rfl rfl ?_
  have h1 := sizeC_le a
  with_reducible repeat' (first | apply And.intro | (intro; skip) | apply c_szCore | apply c_toCore | apply c_eqCore | apply c_sDepth | apply c_iDepth)
  all_goals (try simp only [size_list, List.length_map, Int.toNat_natCast, rng64, obsEq_iff, List.length_append, List.length_replicate, fillTo_len, decide_eq_true_eq, decide_eq_false_iff_not, ne_eq, lb_inj, li_inj, ls_inj, mk_toArray, tx_mkS, mkS_inj, size_mkS] at *)
  all_goals (try (first | with_reducible rfl | omega | assumption | exact getC (by first | omega | (simp only [fillTo_len]; omega) | grind) rfl | exact outcomeGet (by first | omega | (simp only [fillTo_len]; omega) | grind) | exact datumGet (by first | omega | (simp only [fillTo_len]; omega) | grind) | exact coreGet (by first | omega | (simp only [fillTo_len]; omega) | grind) | exact congrArg (Ob.arr true _) (fill_step (by first | omega | (simp only [fillTo_len]; omega) | grind) (by first | rfl | exact outcomeC_eq _ | exact datumC_eq _ | exact coreC_eq _)) | exact congrArg (Ob.arr true _) (fill_init (by first | rfl | exact outcomeC_eq _ | exact datumC_eq _ | exact coreC_eq _)) | grind [sz]))


theorem run_c_LSize (a : Core) : aexec Try.prog (Option.getD (Func.body Try.f10) Code.skip) (entry [] [coreA a] 27) [Orc.call [Mode.rd, Mode.rd] [] (AV.sv (li (sz (wC a)
 1048576))), Orc.br [Orc.fin []] [Orc.call [Mode.rd] [Ob.arr true 1 (List.map intC (Core.params a)), Ob.arr true 4 (List.map datumC (Datum.items (Core.datum a))), Ob.arr true 8
 (List.map coreC (Core.kids a))] (AV.sv (SV.agg [vI (Core.kind a), vI (Core.number a), AC.ref 0, vI (Datum.kind (Core.datum a)), vI (Datum.number (Core.datum a)), vS (Datum.text
 (Core.datum a)), AC.ref 1, AC.ref 2])), Orc.call [Mode.rd] [] (AV.sv (li (↑(sizeC a) : Int))), Orc.call [Mode.rd] [Ob.arr true 1 (List.map intC (Core.params a)), Ob.arr true 4
 (List.map datumC (Datum.items (Core.datum a))), Ob.arr true 8 (List.map coreC (Core.kids a))] (AV.sv (SV.agg [vI (Core.kind a), vI (Core.number a), AC.ref 0, vI (Datum.kind
 (Core.datum a)), vI (Datum.number (Core.datum a)), vS (Datum.text (Core.datum a)), AC.ref 1, AC.ref 2])), Orc.call [Mode.rd] [] (AV.sv (li (↑(sizeC a) : Int))), Orc.br [Orc.fin
 []] [Orc.draw [], Orc.call [Mode.rd] [Ob.arr true 1 (List.map intC (Core.params a)), Ob.arr true 4 (List.map datumC (Datum.items (Core.datum a))), Ob.arr true 8 (List.map coreC
 (Core.kids a))] (AV.sv (SV.agg [vI (Core.kind a), vI (Core.number a), AC.ref 0, vI (Datum.kind (Core.datum a)), vI (Datum.number (Core.datum a)), vS (Datum.text (Core.datum a)),
 AC.ref 1, AC.ref 2])), Orc.call [Mode.rd, Mode.rd] [] (AV.sv (lb (decide (a = a)))), Orc.br [Orc.fin []] [Orc.fin []]]]] (finK Try.prog [ResultVar.tmp 2] [] (AV.sv (lb true))) =
 (CallOK Try.prog 30 [] [coreA a, li 1048576] [] (AV.sv (li (sz (wC a) 1048576))) ∧ (decide (sz (wC a) 1048576 < 0) = true → ObsEq [] [] ∧ AV.sv (lb true) = AV.sv (lb true)) ∧
 (decide (sz (wC a) 1048576 < 0) = false → CallOK Try.prog 32 [] [coreA a] [Ob.arr true 1 (List.map intC (Core.params a)), Ob.arr true 4 (List.map datumC (Datum.items (Core.datum
 a))), Ob.arr true 8 (List.map coreC (Core.kids a))] (AV.sv (SV.agg [vI (Core.kind a), vI (Core.number a), AC.ref 0, vI (Datum.kind (Core.datum a)), vI (Datum.number (Core.datum
 a)), vS (Datum.text (Core.datum a)), AC.ref 1, AC.ref 2])) ∧ CallOK Try.prog 35 [] [coreA a] [] (AV.sv (li (↑(sizeC a) : Int))) ∧ CallOK Try.prog 32 [] [coreA a] [Ob.arr true 1
 (List.map intC (Core.params a)), Ob.arr true 4 (List.map datumC (Datum.items (Core.datum a))), Ob.arr true 8 (List.map coreC (Core.kids a))] (AV.sv (SV.agg [vI (Core.kind a), vI
 (Core.number a), AC.ref 0, vI (Datum.kind (Core.datum a)), vI (Datum.number (Core.datum a)), vS (Datum.text (Core.datum a)), AC.ref 1, AC.ref 2])) ∧ CallOK Try.prog 36 [] [coreA
 a] [] (AV.sv (li (↑(sizeC a) : Int))) ∧ (decide ((↑(sizeC a) : Int) ≠ (↑(sizeC a) : Int)) = true → ObsEq [] [] ∧ AV.sv (lb false) = AV.sv (lb true)) ∧ (decide ((↑(sizeC a) : Int)
 ≠ (↑(sizeC a) : Int)) = false → CallOK Try.prog 32 [] [coreA a] [Ob.arr true 1 (List.map intC (Core.params a)), Ob.arr true 4 (List.map datumC (Datum.items (Core.datum a))),
 Ob.arr true 8 (List.map coreC (Core.kids a))] (AV.sv (SV.agg [vI (Core.kind a), vI (Core.number a), AC.ref 0, vI (Datum.kind (Core.datum a)), vI (Datum.number (Core.datum a)), vS
 (Datum.text (Core.datum a)), AC.ref 1, AC.ref 2])) ∧ CallOK Try.prog 34 [] [coreA a, coreA a] [] (AV.sv (lb (decide (a = a)))) ∧ ((!decide (a = a)) = true → ObsEq [] [] ∧ AV.sv
 (lb false) = AV.sv (lb true)) ∧ ((!decide (a = a)) = false → ObsEq [] [] ∧ AV.sv (lb true) = AV.sv (lb true))))) := by kernel_rfl
theorem c_LSize (a : Core)  : CallOK Try.prog 10 [] [coreA a] [] (.sv (lb true)) := by
  refine CallOK.ofRun wide (run_c_LSize a) Try.call10 Try.func10 rfl rfl rfl ?_
  have h1 := sizeC_le a
  with_reducible repeat' (first | apply And.intro | (intro; skip) | apply c_szCore | apply c_toCore | apply c_eqCore | apply c_sSize | apply c_iSize)
  all_goals (try simp only [size_list, List.length_map, Int.toNat_natCast, rng64, obsEq_iff, List.length_append, List.length_replicate, fillTo_len, decide_eq_true_eq, decide_eq_false_iff_not, ne_eq, lb_inj, li_inj, ls_inj, mk_toArray, tx_mkS, mkS_inj, size_mkS] at *)
  all_goals (try (first | with_reducible rfl | omega | assumption | exact getC (by first | omega | (simp only [fillTo_len]; omega) | grind) rfl | exact outcomeGet (by first | omega | (simp only [fillTo_len]; omega) | grind) | exact datumGet (by first | omega | (simp only [fillTo_len]; omega) | grind) | exact coreGet (by first | omega | (simp only [fillTo_len]; omega) | grind) | exact congrArg (Ob.arr true _) (fill_step (by first | omega | (simp only [fillTo_len]; omega) | grind) (by first | rfl | exact outcomeC_eq _ | exact datumC_eq _ | exact coreC_eq _)) | exact congrArg (Ob.arr true _) (fill_init (by first | rfl | exact outcomeC_eq _ | exact datumC_eq _ | exact coreC_eq _)) | grind [sz]))


theorem run_c_LEqual (a : Core) (b : Core) : aexec Try.prog (Option.getD (Func.body Try.f11) Code.skip) (entry [] [coreA a, coreA b] 45) [Orc.call [Mode.rd, Mode.rd] [] (AV.sv (li
 (sz (wC a) 1048576))), Orc.br [Orc.fin []] [Orc.call [Mode.rd, Mode.rd] [] (AV.sv (li (sz (wC b) (sz (wC a) 1048576)))), Orc.br [Orc.fin []] [Orc.draw [], Orc.call [Mode.rd]
 [Ob.arr true 1 (List.map intC (Core.params a)), Ob.arr true 4 (List.map datumC (Datum.items (Core.datum a))), Ob.arr true 8 (List.map coreC (Core.kids a))] (AV.sv (SV.agg [vI
 (Core.kind a), vI (Core.number a), AC.ref 0, vI (Datum.kind (Core.datum a)), vI (Datum.number (Core.datum a)), vS (Datum.text (Core.datum a)), AC.ref 1, AC.ref 2])), Orc.call
 [Mode.rd] [Ob.arr true 1 (List.map intC (Core.params b)), Ob.arr true 4 (List.map datumC (Datum.items (Core.datum b))), Ob.arr true 8 (List.map coreC (Core.kids b))] (AV.sv
 (SV.agg [vI (Core.kind b), vI (Core.number b), AC.ref 0, vI (Datum.kind (Core.datum b)), vI (Datum.number (Core.datum b)), vS (Datum.text (Core.datum b)), AC.ref 1, AC.ref 2])),
 Orc.call [Mode.rd, Mode.rd] [] (AV.sv (lb (decide (a = b)))), Orc.call [Mode.rd] [Ob.arr true 1 (List.map intC (Core.params a)), Ob.arr true 4 (List.map datumC (Datum.items
 (Core.datum a))), Ob.arr true 8 (List.map coreC (Core.kids a))] (AV.sv (SV.agg [vI (Core.kind a), vI (Core.number a), AC.ref 0, vI (Datum.kind (Core.datum a)), vI (Datum.number
 (Core.datum a)), vS (Datum.text (Core.datum a)), AC.ref 1, AC.ref 2])), Orc.call [Mode.rd] [Ob.arr true 1 (List.map intC (Core.params b)), Ob.arr true 4 (List.map datumC
 (Datum.items (Core.datum b))), Ob.arr true 8 (List.map coreC (Core.kids b))] (AV.sv (SV.agg [vI (Core.kind b), vI (Core.number b), AC.ref 0, vI (Datum.kind (Core.datum b)), vI
 (Datum.number (Core.datum b)), vS (Datum.text (Core.datum b)), AC.ref 1, AC.ref 2])), Orc.call [Mode.rd, Mode.rd] [] (AV.sv (lb (decide (a = b)))), Orc.br [Orc.fin []] [Orc.draw
 [], Orc.call [Mode.rd] [Ob.arr true 1 (List.map intC (Core.params a)), Ob.arr true 4 (List.map datumC (Datum.items (Core.datum a))), Ob.arr true 8 (List.map coreC (Core.kids a))]
 (AV.sv (SV.agg [vI (Core.kind a), vI (Core.number a), AC.ref 0, vI (Datum.kind (Core.datum a)), vI (Datum.number (Core.datum a)), vS (Datum.text (Core.datum a)), AC.ref 1, AC.ref
 2])), Orc.call [Mode.rd, Mode.rd] [] (AV.sv (lb (decide (a = a)))), Orc.br [Orc.fin []] [Orc.draw [], Orc.call [Mode.rd] [Ob.arr true 1 (List.map intC (Core.params b)), Ob.arr
 true 4 (List.map datumC (Datum.items (Core.datum b))), Ob.arr true 8 (List.map coreC (Core.kids b))] (AV.sv (SV.agg [vI (Core.kind b), vI (Core.number b), AC.ref 0, vI (Datum.kind
 (Core.datum b)), vI (Datum.number (Core.datum b)), vS (Datum.text (Core.datum b)), AC.ref 1, AC.ref 2])), Orc.call [Mode.rd, Mode.rd] [] (AV.sv (lb (decide (b = b)))), Orc.br
 [Orc.fin []] [Orc.fin []]]]]]] (finK Try.prog [ResultVar.tmp 4] [] (AV.sv (lb true))) = (CallOK Try.prog 30 [] [coreA a, li 1048576] [] (AV.sv (li (sz (wC a) 1048576))) ∧ (decide
 (sz (wC a) 1048576 < 0) = true → ObsEq [] [] ∧ AV.sv (lb true) = AV.sv (lb true)) ∧ (decide (sz (wC a) 1048576 < 0) = false → CallOK Try.prog 30 [] [coreA b, li (sz (wC a)
 1048576)] [] (AV.sv (li (sz (wC b) (sz (wC a) 1048576)))) ∧ (decide (sz (wC b) (sz (wC a) 1048576) < 0) = true → ObsEq [] [] ∧ AV.sv (lb true) = AV.sv (lb true)) ∧ (decide (sz (wC
 b) (sz (wC a) 1048576) < 0) = false → CallOK Try.prog 32 [] [coreA a] [Ob.arr true 1 (List.map intC (Core.params a)), Ob.arr true 4 (List.map datumC (Datum.items (Core.datum a))),
 Ob.arr true 8 (List.map coreC (Core.kids a))] (AV.sv (SV.agg [vI (Core.kind a), vI (Core.number a), AC.ref 0, vI (Datum.kind (Core.datum a)), vI (Datum.number (Core.datum a)), vS
 (Datum.text (Core.datum a)), AC.ref 1, AC.ref 2])) ∧ CallOK Try.prog 32 [] [coreA b] [Ob.arr true 1 (List.map intC (Core.params b)), Ob.arr true 4 (List.map datumC (Datum.items
 (Core.datum b))), Ob.arr true 8 (List.map coreC (Core.kids b))] (AV.sv (SV.agg [vI (Core.kind b), vI (Core.number b), AC.ref 0, vI (Datum.kind (Core.datum b)), vI (Datum.number
 (Core.datum b)), vS (Datum.text (Core.datum b)), AC.ref 1, AC.ref 2])) ∧ CallOK Try.prog 37 [] [coreA a, coreA b] [] (AV.sv (lb (decide (a = b)))) ∧ CallOK Try.prog 32 [] [coreA
 a] [Ob.arr true 1 (List.map intC (Core.params a)), Ob.arr true 4 (List.map datumC (Datum.items (Core.datum a))), Ob.arr true 8 (List.map coreC (Core.kids a))] (AV.sv (SV.agg [vI
 (Core.kind a), vI (Core.number a), AC.ref 0, vI (Datum.kind (Core.datum a)), vI (Datum.number (Core.datum a)), vS (Datum.text (Core.datum a)), AC.ref 1, AC.ref 2])) ∧ CallOK
 Try.prog 32 [] [coreA b] [Ob.arr true 1 (List.map intC (Core.params b)), Ob.arr true 4 (List.map datumC (Datum.items (Core.datum b))), Ob.arr true 8 (List.map coreC (Core.kids
 b))] (AV.sv (SV.agg [vI (Core.kind b), vI (Core.number b), AC.ref 0, vI (Datum.kind (Core.datum b)), vI (Datum.number (Core.datum b)), vS (Datum.text (Core.datum b)), AC.ref 1,
 AC.ref 2])) ∧ CallOK Try.prog 38 [] [coreA a, coreA b] [] (AV.sv (lb (decide (a = b)))) ∧ (decide (decide (a = b) ≠ decide (a = b)) = true → ObsEq [] [] ∧ AV.sv (lb false) = AV.sv
 (lb true)) ∧ (decide (decide (a = b) ≠ decide (a = b)) = false → CallOK Try.prog 32 [] [coreA a] [Ob.arr true 1 (List.map intC (Core.params a)), Ob.arr true 4 (List.map datumC
 (Datum.items (Core.datum a))), Ob.arr true 8 (List.map coreC (Core.kids a))] (AV.sv (SV.agg [vI (Core.kind a), vI (Core.number a), AC.ref 0, vI (Datum.kind (Core.datum a)), vI
 (Datum.number (Core.datum a)), vS (Datum.text (Core.datum a)), AC.ref 1, AC.ref 2])) ∧ CallOK Try.prog 34 [] [coreA a, coreA a] [] (AV.sv (lb (decide (a = a)))) ∧ ((!decide (a =
 a)) = true → ObsEq [] [] ∧ AV.sv (lb false) = AV.sv (lb true)) ∧ ((!decide (a = a)) = false → CallOK Try.prog 32 [] [coreA b] [Ob.arr true 1 (List.map intC (Core.params b)),
 Ob.arr true 4 (List.map datumC (Datum.items (Core.datum b))), Ob.arr true 8 (List.map coreC (Core.kids b))] (AV.sv (SV.agg [vI (Core.kind b), vI (Core.number b), AC.ref 0, vI
 (Datum.kind (Core.datum b)), vI (Datum.number (Core.datum b)), vS (Datum.text (Core.datum b)), AC.ref 1, AC.ref 2])) ∧ CallOK Try.prog 34 [] [coreA b, coreA b] [] (AV.sv (lb
 (decide (b = b)))) ∧ ((!decide (b = b)) = true → ObsEq [] [] ∧ AV.sv (lb false) = AV.sv (lb true)) ∧ ((!decide (b = b)) = false → ObsEq [] [] ∧ AV.sv (lb true) = AV.sv (lb
 true))))))) := by kernel_rfl
theorem c_LEqual (a b : Core)  : CallOK Try.prog 11 [] [coreA a, coreA b] [] (.sv (lb true)) := by
  refine CallOK.ofRun wide (run_c_LEqual a b) Try.call11 Try.func11 rfl rfl rfl ?_
  with_reducible repeat' (first | apply And.intro | (intro; skip) | apply c_szCore | apply c_toCore | apply c_eqCore | apply c_sEqualCores | apply c_iEqualCores)
  all_goals (try simp only [size_list, List.length_map, Int.toNat_natCast, rng64, obsEq_iff, List.length_append, List.length_replicate, fillTo_len, decide_eq_true_eq, decide_eq_false_iff_not, ne_eq, lb_inj, li_inj, ls_inj, mk_toArray, tx_mkS, mkS_inj, size_mkS] at *)
  all_goals (try (first | with_reducible rfl | omega | assumption | exact getC (by first | omega | (simp only [fillTo_len]; omega) | grind) rfl | exact outcomeGet (by first | omega | (simp only [fillTo_len]; omega) | grind) | exact datumGet (by first | omega | (simp only [fillTo_len]; omega) | grind) | exact coreGet (by first | omega | (simp only [fillTo_len]; omega) | grind) | exact congrArg (Ob.arr true _) (fill_step (by first | omega | (simp only [fillTo_len]; omega) | grind) (by first | rfl | exact outcomeC_eq _ | exact datumC_eq _ | exact coreC_eq _)) | exact congrArg (Ob.arr true _) (fill_init (by first | rfl | exact outcomeC_eq _ | exact datumC_eq _ | exact coreC_eq _)) | grind [sz]))

end Go.Proofs.Ytjaahbkdpodbbaa
