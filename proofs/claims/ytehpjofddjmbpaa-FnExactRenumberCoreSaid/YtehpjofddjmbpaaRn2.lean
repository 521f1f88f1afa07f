/- Part 2 of the proof: The law FnExactRenumberCore holds: RenumberCore answers as the reference's does. No condition. -/
import Derived.Test.YtehpjofddjmbpaaRn1
section
namespace Go.Proofs.Ytehpjofddjmbpaa
open Go Go.Proofs.Ytehpjofddjmbpaa.Ab
set_option linter.unusedVariables false
set_option linter.unusedSimpArgs false
set_option maxHeartbeats 4000000
def lintC (l : List Int) : List Cell := [.list (l.map intC)]
def lintF (l : List Int) : List Cell := [.list (l.map intC)]
instance : Row (List Int) lintC lintF 1 := ⟨fun _ => rfl, fun _ => rfl⟩
theorem takeI {L : List Int} {k : Nat} (h : k < L.length) : L.take (k + 1) = L.take k ++ [L.getD k 0] := take_get h
theorem takeLs {L : List (List Int)} {k : Nat} (h : k < L.length) : (L.take (k + 1)).flatten = (L.take k).flatten ++ L.getD k [] := by
  rw [take_get h, List.flatten_append]; simp; rfl
theorem okU_flat {L : List (List Int)} {k : Nat} (h : okU L.flatten = true) : okU (L.take k).flatten = true := by
  rw [← List.take_append_drop k L, List.flatten_append] at h; exact okU_left h
theorem okU_part {L : List (List Int)} {k j : Nat} (hk : k < L.length) (h : okU L.flatten = true) : okU ((L.take k).flatten ++ (L.getD k []).take j) = true := by
  have h1 := okU_flat (k := k + 1) h
  rw [takeLs hk] at h1
  have h2 : (L.take k).flatten ++ L.getD k [] = ((L.take k).flatten ++ (L.getD k []).take j) ++ (L.getD k []).drop j := by rw [List.append_assoc, List.take_append_drop]
  rw [h2] at h1; exact okU_left h1
theorem memI_one {S : List Int} {n : Int} : memI S n = 1 ↔ n ∈ S := by simp only [memI]; grind
mutual
def bnd : Core → List Int
  | ⟨_, _, p, _, l⟩ => p ++ bnds l
def bnds : List Core → List Int
  | [] => []
  | x :: r => bnd x ++ bnds r
end
theorem bnds_eq : ∀ l, bnds l = l.flatMap bnd
  | [] => by simp [bnds]
  | x :: r => by rw [bnds, bnds_eq r]; simp
theorem bnd_eq (x : Core) : bnd x = x.params ++ x.kids.flatMap bnd := by cases x; simp only [bnd, bnds_eq]
theorem bnd_le : ∀ c : Core, (bnd c).length ≤ wC c := by
  refine Core.ind fun c ih => ?_
  have h : ∀ L : List Core, (∀ y ∈ L, (bnd y).length ≤ wC y) → (L.flatMap bnd).length ≤ sumBy wC L := by
    intro L
    induction L with
    | nil => intro _; simp
    | cons x r ihr =>
      intro hL
      have h1 := hL x List.mem_cons_self
      have h2 := ihr fun y hy => hL y (List.mem_cons_of_mem _ hy)
      simp only [List.flatMap_cons, List.length_append, sumBy]; omega
  have := h c.kids ih
  rw [bnd_eq, wC_eq, List.length_append]; omega
mutual
def depC : Core → Nat
  | ⟨_, _, _, _, l⟩ => depCs l + 1
def depCs : List Core → Nat
  | [] => 0
  | c :: r => max (depC c) (depCs r)
end
theorem depCs_eq : ∀ l, depCs l = maxBy depC l
  | [] => by simp [depCs, maxBy]
  | c :: r => by rw [depCs, maxBy, depCs_eq r]
theorem depC_eq (c : Core) : depC c = maxBy depC c.kids + 1 := by cases c; simp only [depC, depCs_eq]
mutual
def sizeC : Core → Nat
  | ⟨_, _, _, _, l⟩ => sizeCs l + 1
def sizeCs : List Core → Nat
  | [] => 0
  | c :: r => sizeC c + sizeCs r
end
theorem sizeCs_eq : ∀ l, sizeCs l = sumBy sizeC l
  | [] => by simp [sizeCs, sumBy]
  | c :: r => by rw [sizeCs, sumBy, sizeCs_eq r]
theorem sizeC_eq (c : Core) : sizeC c = sumBy sizeC c.kids + 1 := by cases c; simp only [sizeC, sizeCs_eq]
theorem depC_le : ∀ c : Core, depC c ≤ sizeC c := by
  refine Core.ind fun c ih => ?_
  have := maxBy_sum ih
  rw [sizeC_eq, depC_eq]; omega
def shC (c : Core) : Bool :=
  (decide (c.kind = 1) || decide (c.datum = ⟨0, 0, mkS [], []⟩)) && (decide (c.number = 0) || decide (c.kind = 2 ∨ c.kind = 4) || decide (c.kind = 3)) &&
  (if c.kind = 1 then decide ((c.kids.length : Int) = 0) && decide ((c.params.length : Int) = 0) && isDat c.datum
   else if c.kind = 2 then decide ((c.kids.length : Int) = 0) && decide ((c.params.length : Int) = 0)
   else if c.kind = 3 then decide ((c.kids.length : Int) = 0) && decide ((c.params.length : Int) = 0) && decide (0 ≤ c.number ∧ c.number ≤ 13)
   else if c.kind = 4 then decide ((c.kids.length : Int) = 1) && decide ((c.params.length : Int) = 0)
   else if c.kind = 5 then decide ((c.kids.length : Int) = 1) && decide ((c.params.length : Int) ≤ 8)
   else if c.kind = 6 then decide (1 ≤ (c.kids.length : Int) ∧ (c.kids.length : Int) ≤ 9) && decide ((c.params.length : Int) = 0)
   else if c.kind = 7 then decide ((c.kids.length : Int) = 3) && decide ((c.params.length : Int) = 0)
   else if c.kind = 8 then decide (2 ≤ (c.kids.length : Int) ∧ (c.kids.length : Int) ≤ 60) && decide ((c.params.length : Int) = 0)
   else if c.kind = 9 then decide (1 ≤ (c.kids.length : Int) ∧ (c.kids.length : Int) ≤ 60) && decide (1 ≤ (c.params.length : Int) ∧ (c.params.length : Int) ≤ 60)
   else if c.kind = 10 then decide ((c.kids.length : Int) = 1) && decide ((c.params.length : Int) = 0)
   else if c.kind = 11 then decide ((c.kids.length : Int) = 1) && decide ((c.params.length : Int) = 1)
   else false)
def sqC (c x : Core) : Bool := !(decide (c.kind = 8) && decide (x.kind = 8))
def shI (c : Core) : Bool := shC c && c.kids.all (sqC c)
mutual
def okC : Core → Bool
  | c@⟨_, _, _, _, l⟩ => okCs l && shI c
def okCs : List Core → Bool
  | [] => true
  | c :: r => okC c && okCs r
end
theorem okCs_eq : ∀ l, okCs l = l.all okC
  | [] => by simp [okCs]
  | c :: r => by rw [okCs, okCs_eq r]; rfl
theorem okC_eq (c : Core) : okC c = (c.kids.all okC && shI c) := by cases c; simp only [okC, okCs_eq]
mutual
def meaC : Core → Int → Int → Bool × Int
  | c@⟨_, _, _, _, l⟩, deep, m => if deep ≤ 150 ∧ m + 1 ≤ 3000 ∧ shI c = true then meaCs l (deep + 1) (m + 1) else (false, m + 1)
def meaCs : List Core → Int → Int → Bool × Int
  | [], _, m => (true, m)
  | x :: r, deep, m => if (meaC x deep m).1 then meaCs r deep (meaC x deep m).2 else (false, (meaC x deep m).2)
end
theorem meaCs_eq : ∀ l deep m, meaCs l deep m = scan (fun x m => meaC x deep m) l m
  | [], _, _ => by simp [meaCs, scan]
  | x :: r, deep, m => by simp only [meaCs, scan, meaCs_eq r]
theorem meaC_eq (c : Core) (deep m : Int) : meaC c deep m = if deep ≤ 150 ∧ m + 1 ≤ 3000 ∧ shI c = true then scan (fun x m => meaC x (deep + 1) m) c.kids (m + 1) else (false, m + 1) := by cases c; simp only [meaC, meaCs_eq]
theorem meaC_of : ∀ (c : Core) (deep m : Int), m ≤ 3000 → ((meaC c deep m).1 = true ↔ (m + sizeC c ≤ 3000 ∧ (deep + depC c ≤ 151 ∧ okC c = true))) ∧ ((meaC c deep m).1 = true → (meaC c deep m).2 = m + sizeC c) := by
  refine Core.ind fun c ih deep m hm => ?_
  rw [meaC_eq, sizeC_eq, depC_eq, okC_eq, Bool.and_eq_true, List.all_eq_true]
  by_cases h : deep ≤ 150 ∧ m + 1 ≤ 3000 ∧ shI c = true
  · rw [if_pos h]
    have h1 := scan_of (fun x m => meaC x (deep + 1) m) sizeC (fun x => deep + 1 + depC x ≤ 151 ∧ okC x = true) 3000 c.kids (fun x hx m hm => ih x hx (deep + 1) m hm) (m + 1) h.2.1
    have h2 := maxBy_le depC (m := (150 - deep).toNat) (L := c.kids)
    constructor
    · rw [h1.1]
      constructor
      · rintro ⟨a, b⟩
        have := h2.2 fun x hx => by have := (b x hx).1; omega
        exact ⟨by omega, by omega, fun x hx => (b x hx).2, h.2.2⟩
      · rintro ⟨a, b, d, e⟩
        have := h2.1 (by omega)
        exact ⟨by omega, fun x hx => ⟨by have := this x hx; omega, d x hx⟩⟩
    · intro ht; rw [h1.2 ht]; omega
  · rw [if_neg h]
    refine ⟨⟨fun e => Bool.noConfusion e, ?_⟩, fun e => Bool.noConfusion e⟩
    rintro ⟨a, b, d, e⟩
    exact absurd ⟨by omega, by omega, e⟩ h
def smC (c : Core) : Bool := decide (sizeC c ≤ 3000) && decide (depC c ≤ 150) && okC c
theorem meaC_sm (c : Core) : (meaC c 1 0).1 = smC c := by
  have h := (meaC_of c 1 0 (by decide)).1
  rw [Bool.eq_iff_iff, h]
  simp only [smC, Bool.and_eq_true, decide_eq_true_eq, and_assoc]
  constructor
  · rintro ⟨a, b, e⟩; exact ⟨by omega, by omega, e⟩
  · rintro ⟨a, b, e⟩; exact ⟨by omega, by omega, e⟩
def isCor (c : Core) (G : List Int) : Bool := smC c && okU (G ++ bnd c) && (fre c [] []).all fun n => decide (n ∈ G)
def valC (c : Core) : Bool := smC c && okU (fre c [] [] ++ bnd c)
abbrev P_c_sEqData (a : Datum) (b : Datum) : Prop := CallOK Try.prog 142 [] [datumA a, datumA b] [] (.sv (lb (decide (a = b))))
def Tc_sEqData_sLa (a : Datum) (b : Datum) (x0 : SV) : St := St.mk (regsOf 53 [(2, AV.sv (SV.one (AC.ptr 0 0))), (3, AV.sv (SV.one (AC.ptr 1 0))), (36, AV.sv (li (↑(List.length
 (List.map datumC (Datum.items a))) : Int))), (37, AV.sv x0)]) [Ob.box (vals (datumF a)), Ob.box (vals (datumF b))] 0 
def Lc_sEqData_sLa (a : Datum) (b : Datum) (k : Nat) : St := Tc_sEqData_sLa a b (li (↑k : Int)) 
def Ic_sEqData_sLa (a : Datum) (b : Datum) : Nat → St → Prop := Head (Lc_sEqData_sLa a b) (fun k => k ≤ List.length (Datum.items a) ∧ List.length (Datum.items a) ≤
 9223372036854775807 ∧ List.length (Datum.items a) = List.length (Datum.items b) ∧ List.take k (Datum.items a) = List.take k (Datum.items b)) fun k => List.length (Datum.items a) -
 k 
def W0c_sEqData_sLa (a : Datum) (b : Datum) : St := St.mk (regsOf 53 []) [] 0 
def W1c_sEqData_sLa (a : Datum) (b : Datum) (x0 : SV) : St := St.mk (regsOf 53 [(4, AV.sv x0)]) [] 0 
def Yc_sEqData_sLa (a : Datum) (b : Datum) : List (Prop × AEx × St) := [(Datum.items a = Datum.items b, AEx.exit 0, W0c_sEqData_sLa a b), (Datum.items a ≠ Datum.items b, AEx.ret,
 W1c_sEqData_sLa a b (lb false))]
theorem Hc_sEqData_sLa {a : Datum} {b : Datum} {k : Nat} {m : Nat} (h : (fun k => k ≤ List.length (Datum.items a) ∧ List.length (Datum.items a) ≤ 9223372036854775807 ∧ List.length
 (Datum.items a) = List.length (Datum.items b) ∧ List.take k (Datum.items a) = List.take k (Datum.items b)) k) (hm : (fun k => List.length (Datum.items a) - k) k = m) :
 Ic_sEqData_sLa a b m (Lc_sEqData_sLa a b k) := hm ▸ Head.mk h
theorem Ec_sEqData_sLa {a : Datum} {b : Datum} {k : Nat} {x0 : SV} (h0 : x0 = (li (↑k : Int))) : Tc_sEqData_sLa a b x0 = Lc_sEqData_sLa a b k := by
  rw [h0]
  rfl
theorem EW1c_sEqData_sLa {a : Datum} {b : Datum} {x0 y0 : SV} (h0 : x0 = y0) : W1c_sEqData_sLa a b x0 = W1c_sEqData_sLa a b y0 := by rw [h0]
theorem run_c_sEqData_sLa (a : Datum) (b : Datum) (k : Nat) : aexec Try.prog (loopAt Try.f142 0) (Lc_sEqData_sLa a b k) [Orc.br [Orc.draw [], Orc.cells (datumF (List.getD
 (Datum.items a) k default)), Orc.cells (datumF (List.getD (Datum.items b) k default)), Orc.call [Mode.rd, Mode.rd] [] (AV.sv (lb (decide (List.getD (Datum.items a) k default =
 List.getD (Datum.items b) k default)))), Orc.br [Orc.ghost (Ghost.sel [] [4]), Orc.out 1] [Orc.ghost (Ghost.sel [0, 1] [2, 3, 36, 37]), Orc.goto (List.length (Datum.items a) - (k
 + 1)) (Lc_sEqData_sLa a b (k + 1))]] [Orc.ghost (Ghost.sel [] []), Orc.out 0]] (loopK (Ic_sEqData_sLa a b) (Yc_sEqData_sLa a b) (List.length (Datum.items a) - k)) = ((decide ((↑k
 : Int) < (↑(List.length (List.map datumC (Datum.items a))) : Int)) = true → (0 ≤ (↑k : Int) ∧ (List.map datumC (Datum.items a))[Int.toNat (↑k : Int)]? = some (datumF (List.getD
 (Datum.items a) k default))) ∧ (0 ≤ (↑k : Int) ∧ (List.map datumC (Datum.items b))[Int.toNat (↑k : Int)]? = some (datumF (List.getD (Datum.items b) k default))) ∧ P_c_sEqData
 (List.getD (Datum.items a) k default) (List.getD (Datum.items b) k default) ∧ ((!decide (List.getD (Datum.items a) k default = List.getD (Datum.items b) k default)) = true →
 Datum.items a ≠ Datum.items b ∧ W1c_sEqData_sLa a b (lb false) = W1c_sEqData_sLa a b (lb false)) ∧ ((!decide (List.getD (Datum.items a) k default = List.getD (Datum.items b) k
 default)) = false → rng IntKind.i64 ((↑k : Int) + 1) ∧ List.length (Datum.items a) - (k + 1) < List.length (Datum.items a) - k ∧ Tc_sEqData_sLa a b (li ((↑k : Int) + 1)) =
 Lc_sEqData_sLa a b (k + 1) ∧ Ic_sEqData_sLa a b (List.length (Datum.items a) - (k + 1)) (Lc_sEqData_sLa a b (k + 1)))) ∧ (decide ((↑k : Int) < (↑(List.length (List.map datumC
 (Datum.items a))) : Int)) = false → Datum.items a = Datum.items b ∧ W0c_sEqData_sLa a b = W0c_sEqData_sLa a b)) := by kernel_rfl
theorem Sc_sEqData_sLa (a : Datum) (b : Datum) (ih : ∀ (z : Datum), z ∈ Datum.items a → ∀ (b : Datum), P_c_sEqData z b)  : LoopSem Try.prog (loopAt Try.f142 0) (Ic_sEqData_sLa a b)
 (Yc_sEqData_sLa a b) := by
  refine LoopSem.ofHead wide fun k h => ⟨_, _, run_c_sEqData_sLa a b k, ?_⟩
  with_reducible repeat' (first | apply And.intro | exact flatI | exact flatS | exact rowLens | exact ih | (intro; skip) | apply obsN | apply obsC | apply obA | apply obM | apply obB | apply svA | apply tupA | apply lcA | apply lcS | apply svC | apply liC | apply lbC | apply lsC | apply vIc | apply vBc | apply vSc | apply vLc | apply mapC | apply mIc | apply mOc | apply mSc | apply mLc | apply Hc_sEqData_sLa | apply Ec_sEqData_sLa | apply EW1c_sEqData_sLa | apply ih)
  all_goals (try simp only [std] at *)
  all_goals (try (first | with_reducible apply ih | (simp only [← List.map_append]; first | with_reducible apply ih)))
  all_goals (try (first | with_reducible rfl | omega | assumption | (refine (decide_eq_true ?_).symm; assumption) | (refine (decide_eq_false ?_).symm; assumption) | (refine rowGet ?_; (first | omega | (simp only [std]; omega) | grind)) | (refine getC ?_ rfl; (first | omega | (simp only [std]; omega) | grind)) | exact look_mI | exact look_mO | exact look_mO1 | exact look_mS | exact look_mL | exact upd_mI | exact upd_mO | exact del_mO | exact upd_mS | exact take_mL | (refine upd_mL ?_; grind) | (refine fill_step ?_ ?_; (first | omega | (simp only [std]; omega) | grind); (first | rfl | exact (Row.eq _).trans rfl)) | (refine fill_init ?_; (first | rfl | exact (Row.eq _).trans rfl)) | (show (_ : St) = _; rfl) | grind [take_eq, getD_mem', snocI, snocS, rowSnoc]))
theorem run_c_sEqData_s (a : Datum) (b : Datum) : aexec Try.prog (Option.getD (Func.body Try.f142) Code.skip) (entry [] [datumA a, datumA b] 53) [Orc.br [Orc.bool true, Orc.bool
 true, Orc.bool true, Orc.fin []] [Orc.br [Orc.bool true, Orc.bool true, Orc.fin []] [Orc.br [Orc.bool true, Orc.fin []] [Orc.br [Orc.fin []] [Orc.ghost (Ghost.sel [0, 1] [2, 3,
 36, 37]), Orc.loop (List.length (Datum.items a) - 0) (Lc_sEqData_sLa a b 0) (Ic_sEqData_sLa a b) [(Datum.items a = Datum.items b, AEx.exit 0, W0c_sEqData_sLa a b, [Orc.fin []]),
 (Datum.items a ≠ Datum.items b, AEx.ret, W1c_sEqData_sLa a b (lb false), [Orc.fin []])]]]]]] (finK Try.prog [ResultVar.tmp 4] [] (AV.sv (lb (decide (a = b))))) = ((decide
 (Datum.kind a ≠ Datum.kind b) = true → true = true ∧ true = true ∧ true = true ∧ ObsEq [] [] ∧ AV.sv (lb false) = AV.sv (lb (decide (a = b)))) ∧ (decide (Datum.kind a ≠ Datum.kind
 b) = false → (decide (Datum.number a ≠ Datum.number b) = true → true = true ∧ true = true ∧ ObsEq [] [] ∧ AV.sv (lb false) = AV.sv (lb (decide (a = b)))) ∧ (decide (Datum.number a
 ≠ Datum.number b) = false → (decide (Array.toList (ByteArray.data (Datum.text a)) ≠ Array.toList (ByteArray.data (Datum.text b))) = true → true = true ∧ ObsEq [] [] ∧ AV.sv (lb
 false) = AV.sv (lb (decide (a = b)))) ∧ (decide (Array.toList (ByteArray.data (Datum.text a)) ≠ Array.toList (ByteArray.data (Datum.text b))) = false → List.length (List.map
 datumC (Datum.items a)) ≤ 9223372036854775807 → List.length (List.map datumC (Datum.items b)) ≤ 9223372036854775807 → (decide ((↑(List.length (List.map datumC (Datum.items a))) :
 Int) ≠ (↑(List.length (List.map datumC (Datum.items b))) : Int)) = true → ObsEq [] [] ∧ AV.sv (lb false) = AV.sv (lb (decide (a = b)))) ∧ (decide ((↑(List.length (List.map datumC
 (Datum.items a))) : Int) ≠ (↑(List.length (List.map datumC (Datum.items b))) : Int)) = false → List.length (List.map datumC (Datum.items a)) ≤ 9223372036854775807 → Tc_sEqData_sLa
 a b (li 0) = Lc_sEqData_sLa a b 0 ∧ Ic_sEqData_sLa a b (List.length (Datum.items a) - 0) (Lc_sEqData_sLa a b 0) ∧ LoopSem Try.prog (loopAt Try.f142 0) (Ic_sEqData_sLa a b)
 (Yc_sEqData_sLa a b) ∧ (Datum.items a = Datum.items b → ObsEq [] [] ∧ AV.sv (lb true) = AV.sv (lb (decide (a = b)))) ∧ ((Datum.items a = Datum.items b → False) → ObsEq [] [] ∧
 AV.sv (lb false) = AV.sv (lb (decide (a = b)))) ∧ True))))) := by kernel_rfl
theorem c_sEqData_s (a b : Datum) (ih : ∀ z ∈ a.items, ∀ (b : Datum), P_c_sEqData z b)  : P_c_sEqData a b := by
  refine CallOK.ofRun wide (run_c_sEqData_s a b) Try.call142 Try.func142 rfl rfl rfl ?_
  simp only [datumExt]
  with_reducible repeat' (first | apply And.intro | exact flatI | exact flatS | exact rowLens | exact ih | (intro; skip) | apply obsN | apply obsC | apply obA | apply obM | apply obB | apply svA | apply tupA | apply lcA | apply lcS | apply svC | apply liC | apply lbC | apply lsC | apply vIc | apply vBc | apply vSc | apply vLc | apply mapC | apply mIc | apply mOc | apply mSc | apply mLc | apply Hc_sEqData_sLa | apply Ec_sEqData_sLa | apply Sc_sEqData_sLa | apply EW1c_sEqData_sLa)
  all_goals (try simp only [std] at *)
  all_goals (try (first | with_reducible apply ih | (simp only [← List.map_append]; first | with_reducible apply ih)))
  all_goals (try (first | with_reducible rfl | omega | assumption | (refine (decide_eq_true ?_).symm; assumption) | (refine (decide_eq_false ?_).symm; assumption) | (refine rowGet ?_; (first | omega | (simp only [std]; omega) | grind)) | (refine getC ?_ rfl; (first | omega | (simp only [std]; omega) | grind)) | exact look_mI | exact look_mO | exact look_mO1 | exact look_mS | exact look_mL | exact upd_mI | exact upd_mO | exact del_mO | exact upd_mS | exact take_mL | (refine upd_mL ?_; grind) | (refine fill_step ?_ ?_; (first | omega | (simp only [std]; omega) | grind); (first | rfl | exact (Row.eq _).trans rfl)) | (refine fill_init ?_; (first | rfl | exact (Row.eq _).trans rfl)) | (show (_ : St) = _; rfl) | grind [bytes_ext, snocI, snocS, rowSnoc]))
theorem c_sEqData (a : Datum) : ∀ (b : Datum), P_c_sEqData a b := Datum.ind (P := fun a => ∀ (b : Datum), P_c_sEqData a b) (fun a ih b => c_sEqData_s a b ih) a
abbrev P_c_iEqData (a : Datum) (b : Datum) : Prop := CallOK Try.prog 252 [] [datumA a, datumA b] [] (.sv (lb (decide (a = b))))
def Tc_iEqData_sLa (a : Datum) (b : Datum) (x0 : SV) : St := St.mk (regsOf 53 [(2, AV.sv (SV.one (AC.ptr 0 0))), (3, AV.sv (SV.one (AC.ptr 1 0))), (36, AV.sv (li (↑(List.length
 (List.map datumC (Datum.items a))) : Int))), (37, AV.sv x0)]) [Ob.box (vals (datumF a)), Ob.box (vals (datumF b))] 0 
def Lc_iEqData_sLa (a : Datum) (b : Datum) (k : Nat) : St := Tc_iEqData_sLa a b (li (↑k : Int)) 
def Ic_iEqData_sLa (a : Datum) (b : Datum) : Nat → St → Prop := Head (Lc_iEqData_sLa a b) (fun k => k ≤ List.length (Datum.items a) ∧ List.length (Datum.items a) ≤
 9223372036854775807 ∧ List.length (Datum.items a) = List.length (Datum.items b) ∧ List.take k (Datum.items a) = List.take k (Datum.items b)) fun k => List.length (Datum.items a) -
 k 
def W0c_iEqData_sLa (a : Datum) (b : Datum) : St := St.mk (regsOf 53 []) [] 0 
def W1c_iEqData_sLa (a : Datum) (b : Datum) (x0 : SV) : St := St.mk (regsOf 53 [(4, AV.sv x0)]) [] 0 
def Yc_iEqData_sLa (a : Datum) (b : Datum) : List (Prop × AEx × St) := [(Datum.items a = Datum.items b, AEx.exit 0, W0c_iEqData_sLa a b), (Datum.items a ≠ Datum.items b, AEx.ret,
 W1c_iEqData_sLa a b (lb false))]
theorem Hc_iEqData_sLa {a : Datum} {b : Datum} {k : Nat} {m : Nat} (h : (fun k => k ≤ List.length (Datum.items a) ∧ List.length (Datum.items a) ≤ 9223372036854775807 ∧ List.length
 (Datum.items a) = List.length (Datum.items b) ∧ List.take k (Datum.items a) = List.take k (Datum.items b)) k) (hm : (fun k => List.length (Datum.items a) - k) k = m) :
 Ic_iEqData_sLa a b m (Lc_iEqData_sLa a b k) := hm ▸ Head.mk h
theorem Ec_iEqData_sLa {a : Datum} {b : Datum} {k : Nat} {x0 : SV} (h0 : x0 = (li (↑k : Int))) : Tc_iEqData_sLa a b x0 = Lc_iEqData_sLa a b k := by
  rw [h0]
  rfl
theorem EW1c_iEqData_sLa {a : Datum} {b : Datum} {x0 y0 : SV} (h0 : x0 = y0) : W1c_iEqData_sLa a b x0 = W1c_iEqData_sLa a b y0 := by rw [h0]
theorem run_c_iEqData_sLa (a : Datum) (b : Datum) (k : Nat) : aexec Try.prog (loopAt Try.f252 0) (Lc_iEqData_sLa a b k) [Orc.br [Orc.draw [], Orc.cells (datumF (List.getD
 (Datum.items a) k default)), Orc.cells (datumF (List.getD (Datum.items b) k default)), Orc.call [Mode.rd, Mode.rd] [] (AV.sv (lb (decide (List.getD (Datum.items a) k default =
 List.getD (Datum.items b) k default)))), Orc.br [Orc.ghost (Ghost.sel [] [4]), Orc.out 1] [Orc.ghost (Ghost.sel [0, 1] [2, 3, 36, 37]), Orc.goto (List.length (Datum.items a) - (k
 + 1)) (Lc_iEqData_sLa a b (k + 1))]] [Orc.ghost (Ghost.sel [] []), Orc.out 0]] (loopK (Ic_iEqData_sLa a b) (Yc_iEqData_sLa a b) (List.length (Datum.items a) - k)) = ((decide ((↑k
 : Int) < (↑(List.length (List.map datumC (Datum.items a))) : Int)) = true → (0 ≤ (↑k : Int) ∧ (List.map datumC (Datum.items a))[Int.toNat (↑k : Int)]? = some (datumF (List.getD
 (Datum.items a) k default))) ∧ (0 ≤ (↑k : Int) ∧ (List.map datumC (Datum.items b))[Int.toNat (↑k : Int)]? = some (datumF (List.getD (Datum.items b) k default))) ∧ P_c_iEqData
 (List.getD (Datum.items a) k default) (List.getD (Datum.items b) k default) ∧ ((!decide (List.getD (Datum.items a) k default = List.getD (Datum.items b) k default)) = true →
 Datum.items a ≠ Datum.items b ∧ W1c_iEqData_sLa a b (lb false) = W1c_iEqData_sLa a b (lb false)) ∧ ((!decide (List.getD (Datum.items a) k default = List.getD (Datum.items b) k
 default)) = false → rng IntKind.i64 ((↑k : Int) + 1) ∧ List.length (Datum.items a) - (k + 1) < List.length (Datum.items a) - k ∧ Tc_iEqData_sLa a b (li ((↑k : Int) + 1)) =
 Lc_iEqData_sLa a b (k + 1) ∧ Ic_iEqData_sLa a b (List.length (Datum.items a) - (k + 1)) (Lc_iEqData_sLa a b (k + 1)))) ∧ (decide ((↑k : Int) < (↑(List.length (List.map datumC
 (Datum.items a))) : Int)) = false → Datum.items a = Datum.items b ∧ W0c_iEqData_sLa a b = W0c_iEqData_sLa a b)) := by kernel_rfl
theorem Sc_iEqData_sLa (a : Datum) (b : Datum) (ih : ∀ (z : Datum), z ∈ Datum.items a → ∀ (b : Datum), P_c_iEqData z b)  : LoopSem Try.prog (loopAt Try.f252 0) (Ic_iEqData_sLa a b)
 (Yc_iEqData_sLa a b) := by
  refine LoopSem.ofHead wide fun k h => ⟨_, _, run_c_iEqData_sLa a b k, ?_⟩
  with_reducible repeat' (first | apply And.intro | exact flatI | exact flatS | exact rowLens | exact ih | (intro; skip) | apply obsN | apply obsC | apply obA | apply obM | apply obB | apply svA | apply tupA | apply lcA | apply lcS | apply svC | apply liC | apply lbC | apply lsC | apply vIc | apply vBc | apply vSc | apply vLc | apply mapC | apply mIc | apply mOc | apply mSc | apply mLc | apply Hc_iEqData_sLa | apply Ec_iEqData_sLa | apply EW1c_iEqData_sLa | apply ih)
  all_goals (try simp only [std] at *)
  all_goals (try (first | with_reducible apply ih | (simp only [← List.map_append]; first | with_reducible apply ih)))
  all_goals (try (first | with_reducible rfl | omega | assumption | (refine (decide_eq_true ?_).symm; assumption) | (refine (decide_eq_false ?_).symm; assumption) | (refine rowGet ?_; (first | omega | (simp only [std]; omega) | grind)) | (refine getC ?_ rfl; (first | omega | (simp only [std]; omega) | grind)) | exact look_mI | exact look_mO | exact look_mO1 | exact look_mS | exact look_mL | exact upd_mI | exact upd_mO | exact del_mO | exact upd_mS | exact take_mL | (refine upd_mL ?_; grind) | (refine fill_step ?_ ?_; (first | omega | (simp only [std]; omega) | grind); (first | rfl | exact (Row.eq _).trans rfl)) | (refine fill_init ?_; (first | rfl | exact (Row.eq _).trans rfl)) | (show (_ : St) = _; rfl) | grind [take_eq, getD_mem', snocI, snocS, rowSnoc]))
theorem run_c_iEqData_s (a : Datum) (b : Datum) : aexec Try.prog (Option.getD (Func.body Try.f252) Code.skip) (entry [] [datumA a, datumA b] 53) [Orc.br [Orc.bool true, Orc.bool
 true, Orc.bool true, Orc.fin []] [Orc.br [Orc.bool true, Orc.bool true, Orc.fin []] [Orc.br [Orc.bool true, Orc.fin []] [Orc.br [Orc.fin []] [Orc.ghost (Ghost.sel [0, 1] [2, 3,
 36, 37]), Orc.loop (List.length (Datum.items a) - 0) (Lc_iEqData_sLa a b 0) (Ic_iEqData_sLa a b) [(Datum.items a = Datum.items b, AEx.exit 0, W0c_iEqData_sLa a b, [Orc.fin []]),
 (Datum.items a ≠ Datum.items b, AEx.ret, W1c_iEqData_sLa a b (lb false), [Orc.fin []])]]]]]] (finK Try.prog [ResultVar.tmp 4] [] (AV.sv (lb (decide (a = b))))) = ((decide
 (Datum.kind a ≠ Datum.kind b) = true → true = true ∧ true = true ∧ true = true ∧ ObsEq [] [] ∧ AV.sv (lb false) = AV.sv (lb (decide (a = b)))) ∧ (decide (Datum.kind a ≠ Datum.kind
 b) = false → (decide (Datum.number a ≠ Datum.number b) = true → true = true ∧ true = true ∧ ObsEq [] [] ∧ AV.sv (lb false) = AV.sv (lb (decide (a = b)))) ∧ (decide (Datum.number a
 ≠ Datum.number b) = false → (decide (Array.toList (ByteArray.data (Datum.text a)) ≠ Array.toList (ByteArray.data (Datum.text b))) = true → true = true ∧ ObsEq [] [] ∧ AV.sv (lb
 false) = AV.sv (lb (decide (a = b)))) ∧ (decide (Array.toList (ByteArray.data (Datum.text a)) ≠ Array.toList (ByteArray.data (Datum.text b))) = false → List.length (List.map
 datumC (Datum.items a)) ≤ 9223372036854775807 → List.length (List.map datumC (Datum.items b)) ≤ 9223372036854775807 → (decide ((↑(List.length (List.map datumC (Datum.items a))) :
 Int) ≠ (↑(List.length (List.map datumC (Datum.items b))) : Int)) = true → ObsEq [] [] ∧ AV.sv (lb false) = AV.sv (lb (decide (a = b)))) ∧ (decide ((↑(List.length (List.map datumC
 (Datum.items a))) : Int) ≠ (↑(List.length (List.map datumC (Datum.items b))) : Int)) = false → List.length (List.map datumC (Datum.items a)) ≤ 9223372036854775807 → Tc_iEqData_sLa
 a b (li 0) = Lc_iEqData_sLa a b 0 ∧ Ic_iEqData_sLa a b (List.length (Datum.items a) - 0) (Lc_iEqData_sLa a b 0) ∧ LoopSem Try.prog (loopAt Try.f252 0) (Ic_iEqData_sLa a b)
 (Yc_iEqData_sLa a b) ∧ (Datum.items a = Datum.items b → ObsEq [] [] ∧ AV.sv (lb true) = AV.sv (lb (decide (a = b)))) ∧ ((Datum.items a = Datum.items b → False) → ObsEq [] [] ∧
 AV.sv (lb false) = AV.sv (lb (decide (a = b)))) ∧ True))))) := by kernel_rfl
theorem c_iEqData_s (a b : Datum) (ih : ∀ z ∈ a.items, ∀ (b : Datum), P_c_iEqData z b)  : P_c_iEqData a b := by
  refine CallOK.ofRun wide (run_c_iEqData_s a b) Try.call252 Try.func252 rfl rfl rfl ?_
  simp only [datumExt]
  with_reducible repeat' (first | apply And.intro | exact flatI | exact flatS | exact rowLens | exact ih | (intro; skip) | apply obsN | apply obsC | apply obA | apply obM | apply obB | apply svA | apply tupA | apply lcA | apply lcS | apply svC | apply liC | apply lbC | apply lsC | apply vIc | apply vBc | apply vSc | apply vLc | apply mapC | apply mIc | apply mOc | apply mSc | apply mLc | apply Hc_iEqData_sLa | apply Ec_iEqData_sLa | apply Sc_iEqData_sLa | apply EW1c_iEqData_sLa)
  all_goals (try simp only [std] at *)
  all_goals (try (first | with_reducible apply ih | (simp only [← List.map_append]; first | with_reducible apply ih)))
  all_goals (try (first | with_reducible rfl | omega | assumption | (refine (decide_eq_true ?_).symm; assumption) | (refine (decide_eq_false ?_).symm; assumption) | (refine rowGet ?_; (first | omega | (simp only [std]; omega) | grind)) | (refine getC ?_ rfl; (first | omega | (simp only [std]; omega) | grind)) | exact look_mI | exact look_mO | exact look_mO1 | exact look_mS | exact look_mL | exact upd_mI | exact upd_mO | exact del_mO | exact upd_mS | exact take_mL | (refine upd_mL ?_; grind) | (refine fill_step ?_ ?_; (first | omega | (simp only [std]; omega) | grind); (first | rfl | exact (Row.eq _).trans rfl)) | (refine fill_init ?_; (first | rfl | exact (Row.eq _).trans rfl)) | (show (_ : St) = _; rfl) | grind [bytes_ext, snocI, snocS, rowSnoc]))
theorem c_iEqData (a : Datum) : ∀ (b : Datum), P_c_iEqData a b := Datum.ind (P := fun a => ∀ (b : Datum), P_c_iEqData a b) (fun a ih b => c_iEqData_s a b ih) a
abbrev P_c_sBound (c : Core) (A : List Int) : Prop := CallOK Try.prog 165 [.arr true 1 (A.map intC)] [coreA c, .one (.ref 0)] ([.dead, .arr true 1 ((A ++ bnd c).map intC)]) (.sv (.one (.ref 1)))
def Tc_sBound_sLa (c : Core) (A : List Int) (x0 : SV) (x1 : Ob) : St := St.mk (regsOf 23 [(1, AV.sv (SV.one (AC.ref 1))), (12, AV.sv (ll (List.map coreC (Core.kids c)))), (13,
 AV.sv (li (↑(List.length (List.map coreC (Core.kids c))) : Int))), (14, AV.sv x0)]) [Ob.dead, x1] 1 
def Lc_sBound_sLa (c : Core) (A : List Int) (k : Nat) : St := Tc_sBound_sLa c A (li (↑k : Int)) (Ob.arr true 1 (List.map intC (A ++ Core.params c ++ List.flatMap bnd (List.take k
 (Core.kids c))))) 
def Ic_sBound_sLa (c : Core) (A : List Int) : Nat → St → Prop := Head (Lc_sBound_sLa c A) (fun k => k ≤ List.length (Core.kids c) ∧ List.length (Core.kids c) ≤ 9223372036854775807)
 fun k => List.length (Core.kids c) - k 
def W0c_sBound_sLa (c : Core) (A : List Int) (x0 : Ob) : St := St.mk (regsOf 23 [(1, AV.sv (SV.one (AC.ref 1)))]) [Ob.dead, x0] 1 
def Yc_sBound_sLa (c : Core) (A : List Int) : List (Prop × AEx × St) := [(True, AEx.exit 0, W0c_sBound_sLa c A (Ob.arr true 1 (List.map intC (A ++ bnd c))))]
theorem Hc_sBound_sLa {c : Core} {A : List Int} {k : Nat} {m : Nat} (h : (fun k => k ≤ List.length (Core.kids c) ∧ List.length (Core.kids c) ≤ 9223372036854775807) k) (hm : (fun k
 => List.length (Core.kids c) - k) k = m) : Ic_sBound_sLa c A m (Lc_sBound_sLa c A k) := hm ▸ Head.mk h
theorem Ec_sBound_sLa {c : Core} {A : List Int} {k : Nat} {x0 : SV} {x1 : Ob} (h0 : x0 = (li (↑k : Int))) (h1 : x1 = (Ob.arr true 1 (List.map intC (A ++ Core.params c ++
 List.flatMap bnd (List.take k (Core.kids c)))))) : Tc_sBound_sLa c A x0 x1 = Lc_sBound_sLa c A k := by
  rw [h0, h1]
  rfl
theorem EW0c_sBound_sLa {c : Core} {A : List Int} {x0 y0 : Ob} (h0 : x0 = y0) : W0c_sBound_sLa c A x0 = W0c_sBound_sLa c A y0 := by rw [h0]
theorem run_c_sBound_sLa (c : Core) (A : List Int) (k : Nat) : aexec Try.prog (loopAt Try.f165 0) (Lc_sBound_sLa c A k) [Orc.br [Orc.cells (coreF (List.getD (Core.kids c) k
 default)), Orc.call [Mode.rd, Mode.own true 1] [Ob.dead, Ob.arr true 1 (List.map intC (A ++ Core.params c ++ List.flatMap bnd (List.take k (Core.kids c)) ++ bnd (List.getD
 (Core.kids c) k default)))] (AV.sv (SV.one (AC.ref 1))), Orc.ghost (Ghost.sel [0, 4] [1, 12, 13, 14]), Orc.goto (List.length (Core.kids c) - (k + 1)) (Lc_sBound_sLa c A (k + 1))]
 [Orc.ghost (Ghost.sel [0, 1] [1]), Orc.out 0]] (loopK (Ic_sBound_sLa c A) (Yc_sBound_sLa c A) (List.length (Core.kids c) - k)) = ((decide ((↑k : Int) < (↑(List.length (List.map
 coreC (Core.kids c))) : Int)) = true → (0 ≤ (↑k : Int) ∧ (List.map coreC (Core.kids c))[Int.toNat (↑k : Int)]? = some (coreF (List.getD (Core.kids c) k default))) ∧ P_c_sBound
 (List.getD (Core.kids c) k default) (A ++ Core.params c ++ List.flatMap bnd (List.take k (Core.kids c))) ∧ rng IntKind.i64 ((↑k : Int) + 1) ∧ List.length (Core.kids c) - (k + 1) <
 List.length (Core.kids c) - k ∧ Tc_sBound_sLa c A (li ((↑k : Int) + 1)) (Ob.arr true 1 (List.map intC (A ++ Core.params c ++ List.flatMap bnd (List.take k (Core.kids c)) ++ bnd
 (List.getD (Core.kids c) k default)))) = Lc_sBound_sLa c A (k + 1) ∧ Ic_sBound_sLa c A (List.length (Core.kids c) - (k + 1)) (Lc_sBound_sLa c A (k + 1))) ∧ (decide ((↑k : Int) <
 (↑(List.length (List.map coreC (Core.kids c))) : Int)) = false → True ∧ W0c_sBound_sLa c A (Ob.arr true 1 (List.map intC (A ++ Core.params c ++ List.flatMap bnd (List.take k
 (Core.kids c))))) = W0c_sBound_sLa c A (Ob.arr true 1 (List.map intC (A ++ bnd c))))) := by kernel_rfl
theorem Sc_sBound_sLa (c : Core) (A : List Int) (h : List.length A + List.length (bnd c) ≤ 2147483647) (ih : ∀ (z : Core), z ∈ Core.kids c → ∀ (A : List Int), List.length A +
 List.length (bnd z) ≤ 2147483647 → P_c_sBound z A)  : LoopSem Try.prog (loopAt Try.f165 0) (Ic_sBound_sLa c A) (Yc_sBound_sLa c A) := by
  refine LoopSem.ofHead wide fun k h => ⟨_, _, run_c_sBound_sLa c A k, ?_⟩
  have g0 := flat_takeLe bnd c.kids (k + 1)
  with_reducible repeat' (first | apply And.intro | exact flatI | exact flatS | exact rowLens | exact ih | (intro; skip) | apply obsN | apply obsC | apply obA | apply obM | apply obB | apply svA | apply tupA | apply lcA | apply lcS | apply svC | apply liC | apply lbC | apply lsC | apply vIc | apply vBc | apply vSc | apply vLc | apply mapC | apply mIc | apply mOc | apply mSc | apply mLc | apply Hc_sBound_sLa | apply Ec_sBound_sLa | apply EW0c_sBound_sLa | apply ih)
  all_goals (try simp only [std] at *)
  all_goals (try (first | with_reducible apply ih | (simp only [← List.map_append]; first | with_reducible apply ih)))
  all_goals (try (first | with_reducible rfl | omega | assumption | (refine (decide_eq_true ?_).symm; assumption) | (refine (decide_eq_false ?_).symm; assumption) | (refine rowGet ?_; (first | omega | (simp only [std]; omega) | grind)) | (refine getC ?_ rfl; (first | omega | (simp only [std]; omega) | grind)) | exact look_mI | exact look_mO | exact look_mO1 | exact look_mS | exact look_mL | exact upd_mI | exact upd_mO | exact del_mO | exact upd_mS | exact take_mL | (refine upd_mL ?_; grind) | (refine fill_step ?_ ?_; (first | omega | (simp only [std]; omega) | grind); (first | rfl | exact (Row.eq _).trans rfl)) | (refine fill_init ?_; (first | rfl | exact (Row.eq _).trans rfl)) | (show (_ : St) = _; rfl) | grind [flat_take, getD_mem', bnd_eq, snocI, snocS, rowSnoc]))
theorem run_c_sBound_s (c : Core) (A : List Int) : aexec Try.prog (Option.getD (Func.body Try.f165) Code.skip) (entry [Ob.arr true 1 (List.map intC A)] [coreA c, SV.one (AC.ref 0)]
 23) [Orc.ghost (Ghost.sel [0, 2] [1, 12, 13, 14]), Orc.loop (List.length (Core.kids c) - 0) (Lc_sBound_sLa c A 0) (Ic_sBound_sLa c A) [(True, AEx.exit 0, W0c_sBound_sLa c A
 (Ob.arr true 1 (List.map intC (A ++ bnd c))), [Orc.fin [1]])]] (finK Try.prog [ResultVar.tmp 4] [Ob.dead, Ob.arr true 1 (List.map intC (A ++ bnd c))] (AV.sv (SV.one (AC.ref 1))))
 = ((∀ (e : List Cell), e ∈ List.map intC (Core.params c) → ∀ (c : Cell), c ∈ e → ∃ v, c = Cell.lit v) ∧ (∀ (e : List Cell), e ∈ List.map intC (Core.params c) → List.length e = 1)
 ∧ (List.length (List.map intC A) + List.length (List.map intC (Core.params c))) * 8 ≤ 140737488355328 ∧ (List.length (List.map coreC (Core.kids c)) ≤ 9223372036854775807 →
 Tc_sBound_sLa c A (li 0) (Ob.arr true 1 (List.map intC A ++ List.map intC (Core.params c))) = Lc_sBound_sLa c A 0 ∧ Ic_sBound_sLa c A (List.length (Core.kids c) - 0)
 (Lc_sBound_sLa c A 0) ∧ LoopSem Try.prog (loopAt Try.f165 0) (Ic_sBound_sLa c A) (Yc_sBound_sLa c A) ∧ (True → ObsEq [Ob.dead, Ob.arr true 1 (List.map intC (A ++ bnd c))]
 [Ob.dead, Ob.arr true 1 (List.map intC (A ++ bnd c))] ∧ AV.sv (SV.one (AC.ref 1)) = AV.sv (SV.one (AC.ref 1))) ∧ True)) := by kernel_rfl
theorem c_sBound_s (c : Core) (A : List Int) (h : A.length + (bnd c).length ≤ 2147483647) (ih : ∀ z ∈ c.kids, ∀ (A : List Int) (h : A.length + (bnd z).length ≤ 2147483647),
 P_c_sBound z A)  : P_c_sBound c A := by
  refine CallOK.ofRun wide (run_c_sBound_s c A) Try.call165 Try.func165 rfl rfl rfl ?_
  with_reducible repeat' (first | apply And.intro | exact flatI | exact flatS | exact rowLens | exact ih | (intro; skip) | apply obsN | apply obsC | apply obA | apply obM | apply obB | apply svA | apply tupA | apply lcA | apply lcS | apply svC | apply liC | apply lbC | apply lsC | apply vIc | apply vBc | apply vSc | apply vLc | apply mapC | apply mIc | apply mOc | apply mSc | apply mLc | apply Hc_sBound_sLa | apply Ec_sBound_sLa | apply Sc_sBound_sLa | apply EW0c_sBound_sLa)
  all_goals (try simp only [std] at *)
  all_goals (try (first | with_reducible apply ih | (simp only [← List.map_append]; first | with_reducible apply ih)))
  all_goals (try (first | with_reducible rfl | omega | assumption | (refine (decide_eq_true ?_).symm; assumption) | (refine (decide_eq_false ?_).symm; assumption) | (refine rowGet ?_; (first | omega | (simp only [std]; omega) | grind)) | (refine getC ?_ rfl; (first | omega | (simp only [std]; omega) | grind)) | exact look_mI | exact look_mO | exact look_mO1 | exact look_mS | exact look_mL | exact upd_mI | exact upd_mO | exact del_mO | exact upd_mS | exact take_mL | (refine upd_mL ?_; grind) | (refine fill_step ?_ ?_; (first | omega | (simp only [std]; omega) | grind); (first | rfl | exact (Row.eq _).trans rfl)) | (refine fill_init ?_; (first | rfl | exact (Row.eq _).trans rfl)) | (show (_ : St) = _; rfl) | grind [bnd_eq, snocI, snocS, rowSnoc]))
theorem c_sBound (c : Core) : ∀ (A : List Int) (h : A.length + (bnd c).length ≤ 2147483647), P_c_sBound c A := Core.ind (P := fun c => ∀ (A : List Int) (h : A.length + (bnd c).length ≤ 2147483647), P_c_sBound c A) (fun c ih A h => c_sBound_s c A h ih) c
abbrev P_c_iBound (c : Core) (A : List Int) : Prop := CallOK Try.prog 245 [.arr true 1 (A.map intC)] [coreA c, .one (.ref 0)] ([.dead, .arr true 1 ((A ++ bnd c).map intC)]) (.sv (.one (.ref 1)))
def Tc_iBound_sLa (c : Core) (A : List Int) (x0 : SV) (x1 : Ob) : St := St.mk (regsOf 23 [(1, AV.sv (SV.one (AC.ref 1))), (12, AV.sv (ll (List.map coreC (Core.kids c)))), (13,
 AV.sv (li (↑(List.length (List.map coreC (Core.kids c))) : Int))), (14, AV.sv x0)]) [Ob.dead, x1] 1 
def Lc_iBound_sLa (c : Core) (A : List Int) (k : Nat) : St := Tc_iBound_sLa c A (li (↑k : Int)) (Ob.arr true 1 (List.map intC (A ++ Core.params c ++ List.flatMap bnd (List.take k
 (Core.kids c))))) 
def Ic_iBound_sLa (c : Core) (A : List Int) : Nat → St → Prop := Head (Lc_iBound_sLa c A) (fun k => k ≤ List.length (Core.kids c) ∧ List.length (Core.kids c) ≤ 9223372036854775807)
 fun k => List.length (Core.kids c) - k 
def W0c_iBound_sLa (c : Core) (A : List Int) (x0 : Ob) : St := St.mk (regsOf 23 [(1, AV.sv (SV.one (AC.ref 1)))]) [Ob.dead, x0] 1 
def Yc_iBound_sLa (c : Core) (A : List Int) : List (Prop × AEx × St) := [(True, AEx.exit 0, W0c_iBound_sLa c A (Ob.arr true 1 (List.map intC (A ++ bnd c))))]
theorem Hc_iBound_sLa {c : Core} {A : List Int} {k : Nat} {m : Nat} (h : (fun k => k ≤ List.length (Core.kids c) ∧ List.length (Core.kids c) ≤ 9223372036854775807) k) (hm : (fun k
 => List.length (Core.kids c) - k) k = m) : Ic_iBound_sLa c A m (Lc_iBound_sLa c A k) := hm ▸ Head.mk h
theorem Ec_iBound_sLa {c : Core} {A : List Int} {k : Nat} {x0 : SV} {x1 : Ob} (h0 : x0 = (li (↑k : Int))) (h1 : x1 = (Ob.arr true 1 (List.map intC (A ++ Core.params c ++
 List.flatMap bnd (List.take k (Core.kids c)))))) : Tc_iBound_sLa c A x0 x1 = Lc_iBound_sLa c A k := by
  rw [h0, h1]
  rfl
theorem EW0c_iBound_sLa {c : Core} {A : List Int} {x0 y0 : Ob} (h0 : x0 = y0) : W0c_iBound_sLa c A x0 = W0c_iBound_sLa c A y0 := by rw [h0]
theorem run_c_iBound_sLa (c : Core) (A : List Int) (k : Nat) : aexec Try.prog (loopAt Try.f245 0) (Lc_iBound_sLa c A k) [Orc.br [Orc.cells (coreF (List.getD (Core.kids c) k
 default)), Orc.call [Mode.rd, Mode.own true 1] [Ob.dead, Ob.arr true 1 (List.map intC (A ++ Core.params c ++ List.flatMap bnd (List.take k (Core.kids c)) ++ bnd (List.getD
 (Core.kids c) k default)))] (AV.sv (SV.one (AC.ref 1))), Orc.ghost (Ghost.sel [0, 4] [1, 12, 13, 14]), Orc.goto (List.length (Core.kids c) - (k + 1)) (Lc_iBound_sLa c A (k + 1))]
 [Orc.ghost (Ghost.sel [0, 1] [1]), Orc.out 0]] (loopK (Ic_iBound_sLa c A) (Yc_iBound_sLa c A) (List.length (Core.kids c) - k)) = ((decide ((↑k : Int) < (↑(List.length (List.map
 coreC (Core.kids c))) : Int)) = true → (0 ≤ (↑k : Int) ∧ (List.map coreC (Core.kids c))[Int.toNat (↑k : Int)]? = some (coreF (List.getD (Core.kids c) k default))) ∧ P_c_iBound
 (List.getD (Core.kids c) k default) (A ++ Core.params c ++ List.flatMap bnd (List.take k (Core.kids c))) ∧ rng IntKind.i64 ((↑k : Int) + 1) ∧ List.length (Core.kids c) - (k + 1) <
 List.length (Core.kids c) - k ∧ Tc_iBound_sLa c A (li ((↑k : Int) + 1)) (Ob.arr true 1 (List.map intC (A ++ Core.params c ++ List.flatMap bnd (List.take k (Core.kids c)) ++ bnd
 (List.getD (Core.kids c) k default)))) = Lc_iBound_sLa c A (k + 1) ∧ Ic_iBound_sLa c A (List.length (Core.kids c) - (k + 1)) (Lc_iBound_sLa c A (k + 1))) ∧ (decide ((↑k : Int) <
 (↑(List.length (List.map coreC (Core.kids c))) : Int)) = false → True ∧ W0c_iBound_sLa c A (Ob.arr true 1 (List.map intC (A ++ Core.params c ++ List.flatMap bnd (List.take k
 (Core.kids c))))) = W0c_iBound_sLa c A (Ob.arr true 1 (List.map intC (A ++ bnd c))))) := by kernel_rfl
theorem Sc_iBound_sLa (c : Core) (A : List Int) (h : List.length A + List.length (bnd c) ≤ 2147483647) (ih : ∀ (z : Core), z ∈ Core.kids c → ∀ (A : List Int), List.length A +
 List.length (bnd z) ≤ 2147483647 → P_c_iBound z A)  : LoopSem Try.prog (loopAt Try.f245 0) (Ic_iBound_sLa c A) (Yc_iBound_sLa c A) := by
  refine LoopSem.ofHead wide fun k h => ⟨_, _, run_c_iBound_sLa c A k, ?_⟩
  have g0 := flat_takeLe bnd c.kids (k + 1)
  with_reducible repeat' (first | apply And.intro | exact flatI | exact flatS | exact rowLens | exact ih | (intro; skip) | apply obsN | apply obsC | apply obA | apply obM | apply obB | apply svA | apply tupA | apply lcA | apply lcS | apply svC | apply liC | apply lbC | apply lsC | apply vIc | apply vBc | apply vSc | apply vLc | apply mapC | apply mIc | apply mOc | apply mSc | apply mLc | apply Hc_iBound_sLa | apply Ec_iBound_sLa | apply EW0c_iBound_sLa | apply ih)
  all_goals (try simp only [std] at *)
  all_goals (try (first | with_reducible apply ih | (simp only [← List.map_append]; first | with_reducible apply ih)))
  all_goals (try (first | with_reducible rfl | omega | assumption | (refine (decide_eq_true ?_).symm; assumption) | (refine (decide_eq_false ?_).symm; assumption) | (refine rowGet ?_; (first | omega | (simp only [std]; omega) | grind)) | (refine getC ?_ rfl; (first | omega | (simp only [std]; omega) | grind)) | exact look_mI | exact look_mO | exact look_mO1 | exact look_mS | exact look_mL | exact upd_mI | exact upd_mO | exact del_mO | exact upd_mS | exact take_mL | (refine upd_mL ?_; grind) | (refine fill_step ?_ ?_; (first | omega | (simp only [std]; omega) | grind); (first | rfl | exact (Row.eq _).trans rfl)) | (refine fill_init ?_; (first | rfl | exact (Row.eq _).trans rfl)) | (show (_ : St) = _; rfl) | grind [flat_take, getD_mem', bnd_eq, snocI, snocS, rowSnoc]))
theorem run_c_iBound_s (c : Core) (A : List Int) : aexec Try.prog (Option.getD (Func.body Try.f245) Code.skip) (entry [Ob.arr true 1 (List.map intC A)] [coreA c, SV.one (AC.ref 0)]
 23) [Orc.ghost (Ghost.sel [0, 2] [1, 12, 13, 14]), Orc.loop (List.length (Core.kids c) - 0) (Lc_iBound_sLa c A 0) (Ic_iBound_sLa c A) [(True, AEx.exit 0, W0c_iBound_sLa c A
 (Ob.arr true 1 (List.map intC (A ++ bnd c))), [Orc.fin [1]])]] (finK Try.prog [ResultVar.tmp 4] [Ob.dead, Ob.arr true 1 (List.map intC (A ++ bnd c))] (AV.sv (SV.one (AC.ref 1))))
 = ((∀ (e : List Cell), e ∈ List.map intC (Core.params c) → ∀ (c : Cell), c ∈ e → ∃ v, c = Cell.lit v) ∧ (∀ (e : List Cell), e ∈ List.map intC (Core.params c) → List.length e = 1)
 ∧ (List.length (List.map intC A) + List.length (List.map intC (Core.params c))) * 8 ≤ 140737488355328 ∧ (List.length (List.map coreC (Core.kids c)) ≤ 9223372036854775807 →
 Tc_iBound_sLa c A (li 0) (Ob.arr true 1 (List.map intC A ++ List.map intC (Core.params c))) = Lc_iBound_sLa c A 0 ∧ Ic_iBound_sLa c A (List.length (Core.kids c) - 0)
 (Lc_iBound_sLa c A 0) ∧ LoopSem Try.prog (loopAt Try.f245 0) (Ic_iBound_sLa c A) (Yc_iBound_sLa c A) ∧ (True → ObsEq [Ob.dead, Ob.arr true 1 (List.map intC (A ++ bnd c))]
 [Ob.dead, Ob.arr true 1 (List.map intC (A ++ bnd c))] ∧ AV.sv (SV.one (AC.ref 1)) = AV.sv (SV.one (AC.ref 1))) ∧ True)) := by kernel_rfl
theorem c_iBound_s (c : Core) (A : List Int) (h : A.length + (bnd c).length ≤ 2147483647) (ih : ∀ z ∈ c.kids, ∀ (A : List Int) (h : A.length + (bnd z).length ≤ 2147483647),
 P_c_iBound z A)  : P_c_iBound c A := by
  refine CallOK.ofRun wide (run_c_iBound_s c A) Try.call245 Try.func245 rfl rfl rfl ?_
  with_reducible repeat' (first | apply And.intro | exact flatI | exact flatS | exact rowLens | exact ih | (intro; skip) | apply obsN | apply obsC | apply obA | apply obM | apply obB | apply svA | apply tupA | apply lcA | apply lcS | apply svC | apply liC | apply lbC | apply lsC | apply vIc | apply vBc | apply vSc | apply vLc | apply mapC | apply mIc | apply mOc | apply mSc | apply mLc | apply Hc_iBound_sLa | apply Ec_iBound_sLa | apply Sc_iBound_sLa | apply EW0c_iBound_sLa)
  all_goals (try simp only [std] at *)
  all_goals (try (first | with_reducible apply ih | (simp only [← List.map_append]; first | with_reducible apply ih)))
  all_goals (try (first | with_reducible rfl | omega | assumption | (refine (decide_eq_true ?_).symm; assumption) | (refine (decide_eq_false ?_).symm; assumption) | (refine rowGet ?_; (first | omega | (simp only [std]; omega) | grind)) | (refine getC ?_ rfl; (first | omega | (simp only [std]; omega) | grind)) | exact look_mI | exact look_mO | exact look_mO1 | exact look_mS | exact look_mL | exact upd_mI | exact upd_mO | exact del_mO | exact upd_mS | exact take_mL | (refine upd_mL ?_; grind) | (refine fill_step ?_ ?_; (first | omega | (simp only [std]; omega) | grind); (first | rfl | exact (Row.eq _).trans rfl)) | (refine fill_init ?_; (first | rfl | exact (Row.eq _).trans rfl)) | (show (_ : St) = _; rfl) | grind [bnd_eq, snocI, snocS, rowSnoc]))
theorem c_iBound (c : Core) : ∀ (A : List Int) (h : A.length + (bnd c).length ≤ 2147483647), P_c_iBound c A := Core.ind (P := fun c => ∀ (A : List Int) (h : A.length + (bnd c).length ≤ 2147483647), P_c_iBound c A) (fun c ih A h => c_iBound_s c A h ih) c
abbrev P_c_iBoundVariables (c : Core) : Prop := CallOK Try.prog 170 [] [coreA c] [.arr true 1 ((bnd c).map intC)] (.sv (.one (.ref 0)))
theorem run_c_iBoundVariables (c : Core) : aexec Try.prog (Option.getD (Func.body Try.f170) Code.skip) (entry [] [coreA c] 5) [Orc.call [Mode.rd, Mode.own true 1] [Ob.dead, Ob.arr
 true 1 (List.map intC ([] ++ bnd c))] (AV.sv (SV.one (AC.ref 1))), Orc.fin [2]] (finK Try.prog [ResultVar.tmp 2] [Ob.arr true 1 (List.map intC (bnd c))] (AV.sv (SV.one (AC.ref
 0)))) = (P_c_iBound c [] ∧ ObsEq [Ob.arr true 1 (List.map intC (bnd c))] [Ob.arr true 1 (List.map intC (bnd c))] ∧ AV.sv (SV.one (AC.ref 0)) = AV.sv (SV.one (AC.ref 0))) := by
 kernel_rfl
theorem c_iBoundVariables (c : Core) (h : (bnd c).length ≤ 2147483647)  : P_c_iBoundVariables c := by
  refine CallOK.ofRun wide (run_c_iBoundVariables c) Try.call170 Try.func170 rfl rfl rfl ?_
  with_reducible repeat' (first | apply And.intro | exact flatI | exact flatS | exact rowLens | (intro; skip) | apply obsN | apply obsC | apply obA | apply obM | apply obB | apply svA | apply tupA | apply lcA | apply lcS | apply svC | apply liC | apply lbC | apply lsC | apply vIc | apply vBc | apply vSc | apply vLc | apply mapC | apply mIc | apply mOc | apply mSc | apply mLc | apply c_iBound)
  all_goals (try simp only [std] at *)
  all_goals (try (first | with_reducible apply c_iBound | (simp only [← List.map_append]; first | with_reducible apply c_iBound)))
  all_goals (try (first | with_reducible rfl | omega | assumption | (refine (decide_eq_true ?_).symm; assumption) | (refine (decide_eq_false ?_).symm; assumption) | (refine rowGet ?_; (first | omega | (simp only [std]; omega) | grind)) | (refine getC ?_ rfl; (first | omega | (simp only [std]; omega) | grind)) | exact look_mI | exact look_mO | exact look_mO1 | exact look_mS | exact look_mL | exact upd_mI | exact upd_mO | exact del_mO | exact upd_mS | exact take_mL | (refine upd_mL ?_; grind) | (refine fill_step ?_ ?_; (first | omega | (simp only [std]; omega) | grind); (first | rfl | exact (Row.eq _).trans rfl)) | (refine fill_init ?_; (first | rfl | exact (Row.eq _).trans rfl)) | (show (_ : St) = _; rfl) | grind [snocI, snocS, rowSnoc]))
abbrev P_c_sUniq (L : List Int) : Prop := CallOK Try.prog 163 [] [ll (L.map intC)] [] (.sv (lb (okU L)))
def Tc_sUniqLa (L : List Int) (x0 : SV) : St := St.mk (regsOf 23 [(0, AV.sv (ll (List.map intC L))), (5, AV.sv (ll (List.map intC L))), (6, AV.sv (li (↑(List.length (List.map intC
 L)) : Int))), (7, AV.sv x0)]) [] 0 
def Lc_sUniqLa (L : List Int) (k : Nat) : St := Tc_sUniqLa L (li (↑k : Int)) 
def Ic_sUniqLa (L : List Int) : Nat → St → Prop := Head (Lc_sUniqLa L) (fun k => k ≤ List.length L ∧ List.length L ≤ 9223372036854775807 ∧ okU (List.take k L) = true) fun k =>
 List.length L - k 
def W0c_sUniqLa (L : List Int) : St := St.mk (regsOf 23 []) [] 0 
def W1c_sUniqLa (L : List Int) (x0 : SV) : St := St.mk (regsOf 23 [(2, AV.sv x0)]) [] 0 
def Yc_sUniqLa (L : List Int) : List (Prop × AEx × St) := [(okU L = true, AEx.exit 0, W0c_sUniqLa L), (okU L = false, AEx.ret, W1c_sUniqLa L (lb false))]
theorem Hc_sUniqLa {L : List Int} {k : Nat} {m : Nat} (h : (fun k => k ≤ List.length L ∧ List.length L ≤ 9223372036854775807 ∧ okU (List.take k L) = true) k) (hm : (fun k =>
 List.length L - k) k = m) : Ic_sUniqLa L m (Lc_sUniqLa L k) := hm ▸ Head.mk h
theorem Ec_sUniqLa {L : List Int} {k : Nat} {x0 : SV} (h0 : x0 = (li (↑k : Int))) : Tc_sUniqLa L x0 = Lc_sUniqLa L k := by
  rw [h0]
  rfl
theorem EW1c_sUniqLa {L : List Int} {x0 y0 : SV} (h0 : x0 = y0) : W1c_sUniqLa L x0 = W1c_sUniqLa L y0 := by rw [h0]
theorem run_c_sUniqLa (L : List Int) (k : Nat) : aexec Try.prog (loopAt Try.f163 0) (Lc_sUniqLa L k) [Orc.br [Orc.cells (intC (List.getD L k default)), Orc.call [Mode.rd, Mode.rd,
 Mode.rd] [] (AV.sv (lb (decide (0 ≤ List.getD L k 0 ∧ List.getD L k (0 : Int) ≤ 99999)))), Orc.br [Orc.bool true, Orc.ghost (Ghost.sel [] [2]), Orc.out 1] [Orc.call [Mode.rd,
 Mode.rd] [] (AV.sv (lb (decide (List.getD L k 0 ∈ List.take (Int.toNat (↑k : Int) - 0) (List.drop 0 L))))), Orc.br [Orc.ghost (Ghost.sel [] [2]), Orc.out 1] [Orc.ghost (Ghost.sel
 [] [0, 5, 6, 7]), Orc.goto (List.length L - (k + 1)) (Lc_sUniqLa L (k + 1))]]] [Orc.ghost (Ghost.sel [] []), Orc.out 0]] (loopK (Ic_sUniqLa L) (Yc_sUniqLa L) (List.length L - k))
 = ((decide ((↑k : Int) < (↑(List.length (List.map intC L)) : Int)) = true → (0 ≤ (↑k : Int) ∧ (List.map intC L)[Int.toNat (↑k : Int)]? = some [cI (List.getD L k 0)]) ∧ P_c_l1In
 (List.getD L k 0) 0 99999 ∧ ((!decide (0 ≤ List.getD L k 0 ∧ List.getD L k (0 : Int) ≤ 99999)) = true → true = true ∧ okU L = false ∧ W1c_sUniqLa L (lb false) = W1c_sUniqLa L (lb
 false)) ∧ ((!decide (0 ≤ List.getD L k 0 ∧ List.getD L k (0 : Int) ≤ 99999)) = false → 0 ≤ (↑k : Int) ∧ (0 ≤ Int.toNat (↑k : Int) ∧ Int.toNat (↑k : Int) ≤ List.length (List.map
 intC L) ∧ ∀ (e : List Cell), e ∈ List.map intC L → List.length e = 1) ∧ CallOK Try.prog 166 [] [ll (List.take (Int.toNat (↑k : Int) - 0) (List.drop 0 (List.map intC L))), li
 (List.getD L k 0)] [] (AV.sv (lb (decide (List.getD L k 0 ∈ List.take (Int.toNat (↑k : Int) - 0) (List.drop 0 L))))) ∧ (decide (List.getD L k 0 ∈ List.take (Int.toNat (↑k : Int) -
 0) (List.drop 0 L)) = true → okU L = false ∧ W1c_sUniqLa L (lb false) = W1c_sUniqLa L (lb false)) ∧ (decide (List.getD L k 0 ∈ List.take (Int.toNat (↑k : Int) - 0) (List.drop 0
 L)) = false → rng IntKind.i64 ((↑k : Int) + 1) ∧ List.length L - (k + 1) < List.length L - k ∧ Tc_sUniqLa L (li ((↑k : Int) + 1)) = Lc_sUniqLa L (k + 1) ∧ Ic_sUniqLa L
 (List.length L - (k + 1)) (Lc_sUniqLa L (k + 1))))) ∧ (decide ((↑k : Int) < (↑(List.length (List.map intC L)) : Int)) = false → okU L = true ∧ W0c_sUniqLa L = W0c_sUniqLa L)) :=
 by kernel_rfl
theorem Sc_sUniqLa (L : List Int)  : LoopSem Try.prog (loopAt Try.f163 0) (Ic_sUniqLa L) (Yc_sUniqLa L) := by
  refine LoopSem.ofHead wide fun k h => ⟨_, _, run_c_sUniqLa L k, ?_⟩
  have g1 := @okU_snoc (L.take k) (L.getD k default)
  have g2 := @okU_take L (k + 1)
  with_reducible repeat' (first | apply And.intro | exact flatI | exact flatS | exact rowLens | (intro; skip) | apply obsN | apply obsC | apply obA | apply obM | apply obB | apply svA | apply tupA | apply lcA | apply lcS | apply svC | apply liC | apply lbC | apply lsC | apply vIc | apply vBc | apply vSc | apply vLc | apply mapC | apply mIc | apply mOc | apply mSc | apply mLc | apply Hc_sUniqLa | apply Ec_sUniqLa | apply EW1c_sUniqLa | apply c_l1In | apply c_sHas)
  all_goals (try simp only [std] at *)
  all_goals (try (first | with_reducible apply c_l1In | with_reducible apply c_sHas | (simp only [← List.map_append]; first | with_reducible apply c_l1In | with_reducible apply c_sHas)))
  all_goals (try (first | with_reducible rfl | omega | assumption | (refine (decide_eq_true ?_).symm; assumption) | (refine (decide_eq_false ?_).symm; assumption) | (refine rowGet ?_; (first | omega | (simp only [std]; omega) | grind)) | (refine getC ?_ rfl; (first | omega | (simp only [std]; omega) | grind)) | exact look_mI | exact look_mO | exact look_mO1 | exact look_mS | exact look_mL | exact upd_mI | exact upd_mO | exact del_mO | exact upd_mS | exact take_mL | (refine upd_mL ?_; grind) | (refine fill_step ?_ ?_; (first | omega | (simp only [std]; omega) | grind); (first | rfl | exact (Row.eq _).trans rfl)) | (refine fill_init ?_; (first | rfl | exact (Row.eq _).trans rfl)) | (show (_ : St) = _; rfl) | grind [take_get, snocI, snocS, rowSnoc]))
theorem run_c_sUniq (L : List Int) : aexec Try.prog (Option.getD (Func.body Try.f163) Code.skip) (entry [] [ll (List.map intC L)] 23) [Orc.ghost (Ghost.sel [] [0, 5, 6, 7]),
 Orc.loop (List.length L - 0) (Lc_sUniqLa L 0) (Ic_sUniqLa L) [(okU L = true, AEx.exit 0, W0c_sUniqLa L, [Orc.fin []]), (okU L = false, AEx.ret, W1c_sUniqLa L (lb false), [Orc.fin
 []])]] (finK Try.prog [ResultVar.tmp 2] [] (AV.sv (lb (okU L)))) = (List.length (List.map intC L) ≤ 9223372036854775807 → Tc_sUniqLa L (li 0) = Lc_sUniqLa L 0 ∧ Ic_sUniqLa L
 (List.length L - 0) (Lc_sUniqLa L 0) ∧ LoopSem Try.prog (loopAt Try.f163 0) (Ic_sUniqLa L) (Yc_sUniqLa L) ∧ (okU L = true → ObsEq [] [] ∧ AV.sv (lb true) = AV.sv (lb (okU L))) ∧
 (okU L = false → ObsEq [] [] ∧ AV.sv (lb false) = AV.sv (lb (okU L))) ∧ True) := by kernel_rfl
theorem c_sUniq (L : List Int)  : P_c_sUniq L := by
  refine CallOK.ofRun wide (run_c_sUniq L) Try.call163 Try.func163 rfl rfl rfl ?_
  with_reducible repeat' (first | apply And.intro | exact flatI | exact flatS | exact rowLens | (intro; skip) | apply obsN | apply obsC | apply obA | apply obM | apply obB | apply svA | apply tupA | apply lcA | apply lcS | apply svC | apply liC | apply lbC | apply lsC | apply vIc | apply vBc | apply vSc | apply vLc | apply mapC | apply mIc | apply mOc | apply mSc | apply mLc | apply Hc_sUniqLa | apply Ec_sUniqLa | apply Sc_sUniqLa | apply EW1c_sUniqLa | apply c_l1In | apply c_sHas)
  all_goals (try simp only [std] at *)
  all_goals (try (first | with_reducible apply c_l1In | with_reducible apply c_sHas | (simp only [← List.map_append]; first | with_reducible apply c_l1In | with_reducible apply c_sHas)))
  all_goals (try (first | with_reducible rfl | omega | assumption | (refine (decide_eq_true ?_).symm; assumption) | (refine (decide_eq_false ?_).symm; assumption) | (refine rowGet ?_; (first | omega | (simp only [std]; omega) | grind)) | (refine getC ?_ rfl; (first | omega | (simp only [std]; omega) | grind)) | exact look_mI | exact look_mO | exact look_mO1 | exact look_mS | exact look_mL | exact upd_mI | exact upd_mO | exact del_mO | exact upd_mS | exact take_mL | (refine upd_mL ?_; grind) | (refine fill_step ?_ ?_; (first | omega | (simp only [std]; omega) | grind); (first | rfl | exact (Row.eq _).trans rfl)) | (refine fill_init ?_; (first | rfl | exact (Row.eq _).trans rfl)) | (show (_ : St) = _; rfl) | grind [okU_nil, snocI, snocS, rowSnoc]))
abbrev P_c_sFewC (c : Core) (l : Int) : Prop := CallOK Try.prog 242 [.box [vI l]] [coreA c, .one (.ptr 0 0)] [.box [vI (max (l - sizeC c) (-1))]] (.sv (lb (decide (sizeC c ≤ l))))
def Tc_sFewC_sLa (c : Core) (l : Int) (x0 : SV) (x1 : AC) : St := St.mk (regsOf 36 [(1, AV.sv (SV.one (AC.ptr 0 0))), (2, AV.sv (SV.one (AC.ptr 1 0))), (5, AV.sv x0)]) [Ob.box
 [x1], Ob.box (vals (coreF c))] 1 
def Lc_sFewC_sLa (c : Core) (l : Int) (k : Nat) : St := Tc_sFewC_sLa c l (li (↑k : Int)) (vI (max (l - 1 - (↑(sumBy sizeC (List.take k (Core.kids c))) : Int)) (-1 : Int))) 
def Ic_sFewC_sLa (c : Core) (l : Int) : Nat → St → Prop := Head (Lc_sFewC_sLa c l) (fun k => List.length (Core.kids c) ≥ k) fun k => List.length (Core.kids c) - k 
def W0c_sFewC_sLa (c : Core) (l : Int) (x0 : AC) : St := St.mk (regsOf 36 [(1, AV.sv (SV.one (AC.ptr 0 0)))]) [Ob.box [x0]] 1 
def Yc_sFewC_sLa (c : Core) (l : Int) : List (Prop × AEx × St) := [(True, AEx.exit 0, W0c_sFewC_sLa c l (vI (max (l - (↑(sizeC c) : Int)) (-1 : Int))))]
theorem Hc_sFewC_sLa {c : Core} {l : Int} {k : Nat} {m : Nat} (h : (fun k => List.length (Core.kids c) ≥ k) k) (hm : (fun k => List.length (Core.kids c) - k) k = m) : Ic_sFewC_sLa
 c l m (Lc_sFewC_sLa c l k) := hm ▸ Head.mk h
theorem Ec_sFewC_sLa {c : Core} {l : Int} {k : Nat} {x0 : SV} {x1 : AC} (h0 : x0 = (li (↑k : Int))) (h1 : x1 = (vI (max (l - 1 - (↑(sumBy sizeC (List.take k (Core.kids c))) : Int))
 (-1 : Int)))) : Tc_sFewC_sLa c l x0 x1 = Lc_sFewC_sLa c l k := by
  rw [h0, h1]
  rfl
theorem EW0c_sFewC_sLa {c : Core} {l : Int} {x0 y0 : AC} (h0 : x0 = y0) : W0c_sFewC_sLa c l x0 = W0c_sFewC_sLa c l y0 := by rw [h0]
theorem run_c_sFewC_sLa (c : Core) (l : Int) (k : Nat) : aexec Try.prog (loopAt Try.f242 0) (Lc_sFewC_sLa c l k) [Orc.br [Orc.br [Orc.cells (coreF (List.getD (Core.kids c) k
 default)), Orc.call [Mode.rd, Mode.ptr] [Ob.box [vI (max (max (l - 1 - (↑(sumBy sizeC (List.take k (Core.kids c))) : Int)) (-1 : Int) - (↑(sizeC (List.getD (Core.kids c) k
 default)) : Int)) (-1 : Int))]] (AV.sv (lb (decide ((↑(sizeC (List.getD (Core.kids c) k default)) : Int) ≤ max (l - 1 - (↑(sumBy sizeC (List.take k (Core.kids c))) : Int)) (-1 :
 Int))))), Orc.ghost (Ghost.sel [0, 1] [1, 2, 5]), Orc.goto (List.length (Core.kids c) - (k + 1)) (Lc_sFewC_sLa c l (k + 1))] [Orc.ghost (Ghost.sel [0] [1]), Orc.out 0]] [Orc.bool
 false, Orc.ghost (Ghost.sel [0] [1]), Orc.out 0]] (loopK (Ic_sFewC_sLa c l) (Yc_sFewC_sLa c l) (List.length (Core.kids c) - k)) = (List.length (List.map coreC (Core.kids c)) ≤
 9223372036854775807 → (decide ((↑k : Int) < (↑(List.length (List.map coreC (Core.kids c))) : Int)) = true → (decide (0 ≤ max (l - 1 - (↑(sumBy sizeC (List.take k (Core.kids c))) :
 Int)) (-1 : Int)) = true → (0 ≤ (↑k : Int) ∧ (List.map coreC (Core.kids c))[Int.toNat (↑k : Int)]? = some (coreF (List.getD (Core.kids c) k default))) ∧ P_c_sFewC (List.getD
 (Core.kids c) k default) (max (l - 1 - (↑(sumBy sizeC (List.take k (Core.kids c))) : Int)) (-1 : Int)) ∧ rng IntKind.i64 ((↑k : Int) + 1) ∧ List.length (Core.kids c) - (k + 1) <
 List.length (Core.kids c) - k ∧ Tc_sFewC_sLa c l (li ((↑k : Int) + 1)) (vI (max (max (l - 1 - (↑(sumBy sizeC (List.take k (Core.kids c))) : Int)) (-1 : Int) - (↑(sizeC (List.getD
 (Core.kids c) k default)) : Int)) (-1 : Int))) = Lc_sFewC_sLa c l (k + 1) ∧ Ic_sFewC_sLa c l (List.length (Core.kids c) - (k + 1)) (Lc_sFewC_sLa c l (k + 1))) ∧ (decide (0 ≤ max
 (l - 1 - (↑(sumBy sizeC (List.take k (Core.kids c))) : Int)) (-1 : Int)) = false → True ∧ W0c_sFewC_sLa c l (vI (max (l - 1 - (↑(sumBy sizeC (List.take k (Core.kids c))) : Int))
 (-1 : Int))) = W0c_sFewC_sLa c l (vI (max (l - (↑(sizeC c) : Int)) (-1 : Int))))) ∧ (decide ((↑k : Int) < (↑(List.length (List.map coreC (Core.kids c))) : Int)) = false → false =
 false ∧ True ∧ W0c_sFewC_sLa c l (vI (max (l - 1 - (↑(sumBy sizeC (List.take k (Core.kids c))) : Int)) (-1 : Int))) = W0c_sFewC_sLa c l (vI (max (l - (↑(sizeC c) : Int)) (-1 :
 Int))))) := by kernel_rfl
theorem Sc_sFewC_sLa (c : Core) (l : Int) (h : 0 ≤ l ∧ l ≤ 1000000) (ih : ∀ (z : Core), z ∈ Core.kids c → ∀ (l : Int), 0 ≤ l ∧ l ≤ 1000000 → P_c_sFewC z l)  : LoopSem Try.prog
 (loopAt Try.f242 0) (Ic_sFewC_sLa c l) (Yc_sFewC_sLa c l) := by
  refine LoopSem.ofHead wide fun k h => ⟨_, _, run_c_sFewC_sLa c l k, ?_⟩
  have g1 := sizeC_eq c
  have g2 := sumBy_takeLe sizeC c.kids k
  have g3 := @sumBy_step _ _ sizeC c.kids k
  with_reducible repeat' (first | apply And.intro | exact flatI | exact flatS | exact rowLens | exact ih | (intro; skip) | apply obsN | apply obsC | apply obA | apply obM | apply obB | apply svA | apply tupA | apply lcA | apply lcS | apply svC | apply liC | apply lbC | apply lsC | apply vIc | apply vBc | apply vSc | apply vLc | apply mapC | apply mIc | apply mOc | apply mSc | apply mLc | apply Hc_sFewC_sLa | apply Ec_sFewC_sLa | apply EW0c_sFewC_sLa | apply ih)
  all_goals (try simp only [std] at *)
  all_goals (try (first | with_reducible apply ih | (simp only [← List.map_append]; first | with_reducible apply ih)))
  all_goals (try (first | with_reducible rfl | omega | assumption | (refine (decide_eq_true ?_).symm; assumption) | (refine (decide_eq_false ?_).symm; assumption) | (refine rowGet ?_; (first | omega | (simp only [std]; omega) | grind)) | (refine getC ?_ rfl; (first | omega | (simp only [std]; omega) | grind)) | exact look_mI | exact look_mO | exact look_mO1 | exact look_mS | exact look_mL | exact upd_mI | exact upd_mO | exact del_mO | exact upd_mS | exact take_mL | (refine upd_mL ?_; grind) | (refine fill_step ?_ ?_; (first | omega | (simp only [std]; omega) | grind); (first | rfl | exact (Row.eq _).trans rfl)) | (refine fill_init ?_; (first | rfl | exact (Row.eq _).trans rfl)) | (show (_ : St) = _; rfl) | grind [getD_mem', snocI, snocS, rowSnoc]))
theorem run_c_sFewC_s (c : Core) (l : Int) : aexec Try.prog (Option.getD (Func.body Try.f242) Code.skip) (entry [Ob.box [vI l]] [coreA c, SV.one (AC.ptr 0 0)] 36) [Orc.ghost
 (Ghost.sel [0, 1] [1, 2, 5]), Orc.loop (List.length (Core.kids c) - 0) (Lc_sFewC_sLa c l 0) (Ic_sFewC_sLa c l) [(True, AEx.exit 0, W0c_sFewC_sLa c l (vI (max (l - (↑(sizeC c) :
 Int)) (-1 : Int))), [Orc.fin []])]] (finK Try.prog [ResultVar.tmp 4] [Ob.box [vI (max (l - (↑(sizeC c) : Int)) (-1 : Int))]] (AV.sv (lb (decide ((↑(sizeC c) : Int) ≤ l))))) = (rng
 IntKind.i64 (l - 1) ∧ Tc_sFewC_sLa c l (li 0) (vI (l - 1)) = Lc_sFewC_sLa c l 0 ∧ Ic_sFewC_sLa c l (List.length (Core.kids c) - 0) (Lc_sFewC_sLa c l 0) ∧ LoopSem Try.prog (loopAt
 Try.f242 0) (Ic_sFewC_sLa c l) (Yc_sFewC_sLa c l) ∧ (True → ObsEq [Ob.box [vI (max (l - (↑(sizeC c) : Int)) (-1 : Int))]] [Ob.box [vI (max (l - (↑(sizeC c) : Int)) (-1 : Int))]] ∧
 AV.sv (lb (decide (0 ≤ max (l - (↑(sizeC c) : Int)) (-1 : Int)))) = AV.sv (lb (decide ((↑(sizeC c) : Int) ≤ l)))) ∧ True) := by kernel_rfl
theorem c_sFewC_s (c : Core) (l : Int) (h : 0 ≤ l ∧ l ≤ 1000000) (ih : ∀ z ∈ c.kids, ∀ (l : Int) (h : 0 ≤ l ∧ l ≤ 1000000), P_c_sFewC z l)  : P_c_sFewC c l := by
  refine CallOK.ofRun wide (run_c_sFewC_s c l) Try.call242 Try.func242 rfl rfl rfl ?_
  have g1 := sizeC_eq c
  have g2 : sumBy sizeC (c.kids.take 0) = 0 := rfl
  with_reducible repeat' (first | apply And.intro | exact flatI | exact flatS | exact rowLens | exact ih | (intro; skip) | apply obsN | apply obsC | apply obA | apply obM | apply obB | apply svA | apply tupA | apply lcA | apply lcS | apply svC | apply liC | apply lbC | apply lsC | apply vIc | apply vBc | apply vSc | apply vLc | apply mapC | apply mIc | apply mOc | apply mSc | apply mLc | apply Hc_sFewC_sLa | apply Ec_sFewC_sLa | apply Sc_sFewC_sLa | apply EW0c_sFewC_sLa)
  all_goals (try simp only [std] at *)
  all_goals (try (first | with_reducible apply ih | (simp only [← List.map_append]; first | with_reducible apply ih)))
  all_goals (try (first | with_reducible rfl | omega | assumption | (refine (decide_eq_true ?_).symm; assumption) | (refine (decide_eq_false ?_).symm; assumption) | (refine rowGet ?_; (first | omega | (simp only [std]; omega) | grind)) | (refine getC ?_ rfl; (first | omega | (simp only [std]; omega) | grind)) | exact look_mI | exact look_mO | exact look_mO1 | exact look_mS | exact look_mL | exact upd_mI | exact upd_mO | exact del_mO | exact upd_mS | exact take_mL | (refine upd_mL ?_; grind) | (refine fill_step ?_ ?_; (first | omega | (simp only [std]; omega) | grind); (first | rfl | exact (Row.eq _).trans rfl)) | (refine fill_init ?_; (first | rfl | exact (Row.eq _).trans rfl)) | (show (_ : St) = _; rfl) | grind [snocI, snocS, rowSnoc]))
theorem c_sFewC (c : Core) : ∀ (l : Int) (h : 0 ≤ l ∧ l ≤ 1000000), P_c_sFewC c l := Core.ind (P := fun c => ∀ (l : Int) (h : 0 ≤ l ∧ l ≤ 1000000), P_c_sFewC c l) (fun c ih l h => c_sFewC_s c l h ih) c
abbrev P_c_sSmall (c : Core) : Prop := CallOK Try.prog 160 [] [coreA c] [] (.sv (lb (decide (sizeC c ≤ 3000))))
theorem run_c_sSmall (c : Core) : aexec Try.prog (Option.getD (Func.body Try.f160) Code.skip) (entry [] [coreA c] 6) [Orc.call [Mode.rd, Mode.ptr] [Ob.box [vI (max (3000 - (↑(sizeC
 c) : Int)) (-1 : Int))]] (AV.sv (lb (decide ((↑(sizeC c) : Int) ≤ 3000)))), Orc.fin []] (finK Try.prog [ResultVar.tmp 2] [] (AV.sv (lb (decide (sizeC c ≤ 3000))))) = (P_c_sFewC c
 3000 ∧ ObsEq [] [] ∧ AV.sv (lb (decide ((↑(sizeC c) : Int) ≤ 3000))) = AV.sv (lb (decide (sizeC c ≤ 3000)))) := by kernel_rfl
theorem c_sSmall (c : Core)  : P_c_sSmall c := by
  refine CallOK.ofRun wide (run_c_sSmall c) Try.call160 Try.func160 rfl rfl rfl ?_
  with_reducible repeat' (first | apply And.intro | exact flatI | exact flatS | exact rowLens | (intro; skip) | apply obsN | apply obsC | apply obA | apply obM | apply obB | apply svA | apply tupA | apply lcA | apply lcS | apply svC | apply liC | apply lbC | apply lsC | apply vIc | apply vBc | apply vSc | apply vLc | apply mapC | apply mIc | apply mOc | apply mSc | apply mLc | apply c_sFewC)
  all_goals (try simp only [std] at *)
  all_goals (try (first | with_reducible apply c_sFewC | (simp only [← List.map_append]; first | with_reducible apply c_sFewC)))
  all_goals (try (first | with_reducible rfl | omega | assumption | (refine (decide_eq_true ?_).symm; assumption) | (refine (decide_eq_false ?_).symm; assumption) | (refine rowGet ?_; (first | omega | (simp only [std]; omega) | grind)) | (refine getC ?_ rfl; (first | omega | (simp only [std]; omega) | grind)) | exact look_mI | exact look_mO | exact look_mO1 | exact look_mS | exact look_mL | exact upd_mI | exact upd_mO | exact del_mO | exact upd_mS | exact take_mL | (refine upd_mL ?_; grind) | (refine fill_step ?_ ?_; (first | omega | (simp only [std]; omega) | grind); (first | rfl | exact (Row.eq _).trans rfl)) | (refine fill_init ?_; (first | rfl | exact (Row.eq _).trans rfl)) | (show (_ : St) = _; rfl) | grind [snocI, snocS, rowSnoc]))
abbrev P_c_sDepC (c : Core) : Prop := CallOK Try.prog 161 [] [coreA c] [] (.sv (li (depC c)))
def Tc_sDepC_sLa (c : Core) (x0 : SV) (x1 : SV) : St := St.mk (regsOf 20 [(3, AV.sv x1), (7, AV.sv (ll (List.map coreC (Core.kids c)))), (8, AV.sv (li (↑(List.length (List.map
 coreC (Core.kids c))) : Int))), (9, AV.sv x0)]) [] 0 
def Lc_sDepC_sLa (c : Core) (k : Nat) : St := Tc_sDepC_sLa c (li (↑k : Int)) (li (↑(maxBy depC (List.take k (Core.kids c))) : Int)) 
def Ic_sDepC_sLa (c : Core) : Nat → St → Prop := Head (Lc_sDepC_sLa c) (fun k => k ≤ List.length (Core.kids c) ∧ List.length (Core.kids c) ≤ 9223372036854775807) fun k =>
 List.length (Core.kids c) - k 
def W0c_sDepC_sLa (c : Core) (x0 : SV) : St := St.mk (regsOf 20 [(3, AV.sv x0)]) [] 0 
def Yc_sDepC_sLa (c : Core) : List (Prop × AEx × St) := [(True, AEx.exit 0, W0c_sDepC_sLa c (li (↑(maxBy depC (Core.kids c)) : Int)))]
theorem Hc_sDepC_sLa {c : Core} {k : Nat} {m : Nat} (h : (fun k => k ≤ List.length (Core.kids c) ∧ List.length (Core.kids c) ≤ 9223372036854775807) k) (hm : (fun k => List.length
 (Core.kids c) - k) k = m) : Ic_sDepC_sLa c m (Lc_sDepC_sLa c k) := hm ▸ Head.mk h
theorem Ec_sDepC_sLa {c : Core} {k : Nat} {x0 : SV} {x1 : SV} (h0 : x0 = (li (↑k : Int))) (h1 : x1 = (li (↑(maxBy depC (List.take k (Core.kids c))) : Int))) : Tc_sDepC_sLa c x0 x1
 = Lc_sDepC_sLa c k := by
  rw [h0, h1]
  rfl
theorem EW0c_sDepC_sLa {c : Core} {x0 y0 : SV} (h0 : x0 = y0) : W0c_sDepC_sLa c x0 = W0c_sDepC_sLa c y0 := by rw [h0]
theorem run_c_sDepC_sLa (c : Core) (k : Nat) : aexec Try.prog (loopAt Try.f161 0) (Lc_sDepC_sLa c k) [Orc.br [Orc.cells (coreF (List.getD (Core.kids c) k default)), Orc.call
 [Mode.rd] [] (AV.sv (li (↑(depC (List.getD (Core.kids c) k default)) : Int))), Orc.ghost (Ghost.sel [] [3, 7, 8, 9]), Orc.goto (List.length (Core.kids c) - (k + 1)) (Lc_sDepC_sLa
 c (k + 1))] [Orc.ghost (Ghost.sel [] [3]), Orc.out 0]] (loopK (Ic_sDepC_sLa c) (Yc_sDepC_sLa c) (List.length (Core.kids c) - k)) = ((decide ((↑k : Int) < (↑(List.length (List.map
 coreC (Core.kids c))) : Int)) = true → (0 ≤ (↑k : Int) ∧ (List.map coreC (Core.kids c))[Int.toNat (↑k : Int)]? = some (coreF (List.getD (Core.kids c) k default))) ∧ P_c_sDepC
 (List.getD (Core.kids c) k default) ∧ rng IntKind.i64 ((↑k : Int) + 1) ∧ List.length (Core.kids c) - (k + 1) < List.length (Core.kids c) - k ∧ Tc_sDepC_sLa c (li ((↑k : Int) + 1))
 (li (max (↑(maxBy depC (List.take k (Core.kids c))) : Int) (↑(depC (List.getD (Core.kids c) k default)) : Int))) = Lc_sDepC_sLa c (k + 1) ∧ Ic_sDepC_sLa c (List.length (Core.kids
 c) - (k + 1)) (Lc_sDepC_sLa c (k + 1))) ∧ (decide ((↑k : Int) < (↑(List.length (List.map coreC (Core.kids c))) : Int)) = false → True ∧ W0c_sDepC_sLa c (li (↑(maxBy depC
 (List.take k (Core.kids c))) : Int)) = W0c_sDepC_sLa c (li (↑(maxBy depC (Core.kids c)) : Int)))) := by kernel_rfl
theorem Sc_sDepC_sLa (c : Core) (h : sizeC c ≤ 2147483647) (ih : ∀ (z : Core), z ∈ Core.kids c → sizeC z ≤ 2147483647 → P_c_sDepC z)  : LoopSem Try.prog (loopAt Try.f161 0)
 (Ic_sDepC_sLa c) (Yc_sDepC_sLa c) := by
  refine LoopSem.ofHead wide fun k h => ⟨_, _, run_c_sDepC_sLa c k, ?_⟩
  have g1 := sizeC_eq c
  have g2 := @sumBy_mem _ sizeC c.kids (c.kids.getD k default)
  with_reducible repeat' (first | apply And.intro | exact flatI | exact flatS | exact rowLens | exact ih | (intro; skip) | apply obsN | apply obsC | apply obA | apply obM | apply obB | apply svA | apply tupA | apply lcA | apply lcS | apply svC | apply liC | apply lbC | apply lsC | apply vIc | apply vBc | apply vSc | apply vLc | apply mapC | apply mIc | apply mOc | apply mSc | apply mLc | apply Hc_sDepC_sLa | apply Ec_sDepC_sLa | apply EW0c_sDepC_sLa | apply ih)
  all_goals (try simp only [std] at *)
  all_goals (try (first | with_reducible apply ih | (simp only [← List.map_append]; first | with_reducible apply ih)))
  all_goals (try (first | with_reducible rfl | omega | assumption | (refine (decide_eq_true ?_).symm; assumption) | (refine (decide_eq_false ?_).symm; assumption) | (refine rowGet ?_; (first | omega | (simp only [std]; omega) | grind)) | (refine getC ?_ rfl; (first | omega | (simp only [std]; omega) | grind)) | exact look_mI | exact look_mO | exact look_mO1 | exact look_mS | exact look_mL | exact upd_mI | exact upd_mO | exact del_mO | exact upd_mS | exact take_mL | (refine upd_mL ?_; grind) | (refine fill_step ?_ ?_; (first | omega | (simp only [std]; omega) | grind); (first | rfl | exact (Row.eq _).trans rfl)) | (refine fill_init ?_; (first | rfl | exact (Row.eq _).trans rfl)) | (show (_ : St) = _; rfl) | grind [maxBy_step, getD_mem', snocI, snocS, rowSnoc]))
theorem run_c_sDepC_s (c : Core) : aexec Try.prog (Option.getD (Func.body Try.f161) Code.skip) (entry [] [coreA c] 20) [Orc.ghost (Ghost.sel [] [3, 7, 8, 9]), Orc.loop (List.length
 (Core.kids c) - 0) (Lc_sDepC_sLa c 0) (Ic_sDepC_sLa c) [(True, AEx.exit 0, W0c_sDepC_sLa c (li (↑(maxBy depC (Core.kids c)) : Int)), [Orc.fin []])]] (finK Try.prog [ResultVar.tmp
 2] [] (AV.sv (li (↑(depC c) : Int)))) = (List.length (List.map coreC (Core.kids c)) ≤ 9223372036854775807 → Tc_sDepC_sLa c (li 0) (li 0) = Lc_sDepC_sLa c 0 ∧ Ic_sDepC_sLa c
 (List.length (Core.kids c) - 0) (Lc_sDepC_sLa c 0) ∧ LoopSem Try.prog (loopAt Try.f161 0) (Ic_sDepC_sLa c) (Yc_sDepC_sLa c) ∧ (True → rng IntKind.i64 ((↑(maxBy depC (Core.kids c))
 : Int) + 1) ∧ ObsEq [] [] ∧ AV.sv (li ((↑(maxBy depC (Core.kids c)) : Int) + 1)) = AV.sv (li (↑(depC c) : Int))) ∧ True) := by kernel_rfl
theorem c_sDepC_s (c : Core) (h : sizeC c ≤ 2147483647) (ih : ∀ z ∈ c.kids, ∀ (h : sizeC z ≤ 2147483647), P_c_sDepC z)  : P_c_sDepC c := by
  refine CallOK.ofRun wide (run_c_sDepC_s c) Try.call161 Try.func161 rfl rfl rfl ?_
  have h1 := depC_le c
  have g2 : maxBy depC (c.kids.take 0) = 0 := rfl
  with_reducible repeat' (first | apply And.intro | exact flatI | exact flatS | exact rowLens | exact ih | (intro; skip) | apply obsN | apply obsC | apply obA | apply obM | apply obB | apply svA | apply tupA | apply lcA | apply lcS | apply svC | apply liC | apply lbC | apply lsC | apply vIc | apply vBc | apply vSc | apply vLc | apply mapC | apply mIc | apply mOc | apply mSc | apply mLc | apply Hc_sDepC_sLa | apply Ec_sDepC_sLa | apply Sc_sDepC_sLa | apply EW0c_sDepC_sLa)
  all_goals (try simp only [std] at *)
  all_goals (try (first | with_reducible apply ih | (simp only [← List.map_append]; first | with_reducible apply ih)))
  all_goals (try (first | with_reducible rfl | omega | assumption | (refine (decide_eq_true ?_).symm; assumption) | (refine (decide_eq_false ?_).symm; assumption) | (refine rowGet ?_; (first | omega | (simp only [std]; omega) | grind)) | (refine getC ?_ rfl; (first | omega | (simp only [std]; omega) | grind)) | exact look_mI | exact look_mO | exact look_mO1 | exact look_mS | exact look_mL | exact upd_mI | exact upd_mO | exact del_mO | exact upd_mS | exact take_mL | (refine upd_mL ?_; grind) | (refine fill_step ?_ ?_; (first | omega | (simp only [std]; omega) | grind); (first | rfl | exact (Row.eq _).trans rfl)) | (refine fill_init ?_; (first | rfl | exact (Row.eq _).trans rfl)) | (show (_ : St) = _; rfl) | grind [depC_eq, snocI, snocS, rowSnoc]))
theorem c_sDepC (c : Core) : ∀ (h : sizeC c ≤ 2147483647), P_c_sDepC c := Core.ind (P := fun c => ∀ (h : sizeC c ≤ 2147483647), P_c_sDepC c) (fun c ih h => c_sDepC_s c h ih) c
abbrev P_c_sShape (c : Core) : Prop := CallOK Try.prog 243 [] [coreA c] [] (.sv (lb (shC c)))
abbrev a4_c_sShape (c : Core) := (↑(List.length (List.map coreC (Core.kids c))) : Int)
abbrev a5_c_sShape (c : Core) := (↑(List.length (List.map intC (Core.params c))) : Int)
abbrev a8_c_sShape (c : Core) := (decide ((a4_c_sShape c) = 1) = false → ObsEq [] [] ∧ AV.sv (lb false) = AV.sv (lb (shC c)))
abbrev a1_c_sShape (c : Core) := (decide (Core.kind c = 1) = false → (decide (Core.kind c = 2) = true → (decide ((a4_c_sShape c) = 0) = true → ObsEq [] [] ∧ AV.sv (lb (decide
 ((a5_c_sShape c) = 0))) = AV.sv (lb (shC c))) ∧ (decide ((a4_c_sShape c) = 0) = false → ObsEq [] [] ∧ AV.sv (lb false) = AV.sv (lb (shC c)))) ∧ (decide (Core.kind c = 2) = false →
 (decide (Core.kind c = 3) = true → (decide ((a4_c_sShape c) = 0) = true → (decide ((a5_c_sShape c) = 0) = true → P_c_sPrimitiveNames ∧ rng IntKind.i64 13 ∧ P_c_l1In (Core.number
 c) 0 13 ∧ (14 ≤ 9223372036854775807 → ObsEq [] [] ∧ AV.sv (lb (decide (0 ≤ Core.number c ∧ Core.number c ≤ 13))) = AV.sv (lb (shC c)))) ∧ (decide ((a5_c_sShape c) = 0) = false →
 ObsEq [] [] ∧ AV.sv (lb false) = AV.sv (lb (shC c)))) ∧ (decide ((a4_c_sShape c) = 0) = false → false = false ∧ ObsEq [] [] ∧ AV.sv (lb false) = AV.sv (lb (shC c)))) ∧ (decide
 (Core.kind c = 3) = false → (decide (Core.kind c = 4) = true → (decide ((a4_c_sShape c) = 1) = true → ObsEq [] [] ∧ AV.sv (lb (decide ((a5_c_sShape c) = 0))) = AV.sv (lb (shC c)))
 ∧ (a8_c_sShape c)) ∧ (decide (Core.kind c = 4) = false → (decide (Core.kind c = 5) = true → (decide ((a4_c_sShape c) = 1) = true → ObsEq [] [] ∧ AV.sv (lb (decide ((a5_c_sShape c)
 ≤ 8))) = AV.sv (lb (shC c))) ∧ (a8_c_sShape c)) ∧ (decide (Core.kind c = 5) = false → (decide (Core.kind c = 6) = true → P_c_l1In (a4_c_sShape c) 1 9 ∧ (decide (1 ≤ (a4_c_sShape
 c) ∧ (a4_c_sShape c) ≤ 9) = true → ObsEq [] [] ∧ AV.sv (lb (decide ((a5_c_sShape c) = 0))) = AV.sv (lb (shC c))) ∧ (decide (1 ≤ (a4_c_sShape c) ∧ (a4_c_sShape c) ≤ 9) = false →
 ObsEq [] [] ∧ AV.sv (lb false) = AV.sv (lb (shC c)))) ∧ (decide (Core.kind c = 6) = false → (decide (Core.kind c = 7) = true → (decide ((a4_c_sShape c) = 3) = true → ObsEq [] [] ∧
 AV.sv (lb (decide ((a5_c_sShape c) = 0))) = AV.sv (lb (shC c))) ∧ (decide ((a4_c_sShape c) = 3) = false → ObsEq [] [] ∧ AV.sv (lb false) = AV.sv (lb (shC c)))) ∧ (decide
 (Core.kind c = 7) = false → (decide (Core.kind c = 8) = true → P_c_l1In (a4_c_sShape c) 2 60 ∧ (decide (2 ≤ (a4_c_sShape c) ∧ (a4_c_sShape c) ≤ 60) = true → ObsEq [] [] ∧ AV.sv
 (lb (decide ((a5_c_sShape c) = 0))) = AV.sv (lb (shC c))) ∧ (decide (2 ≤ (a4_c_sShape c) ∧ (a4_c_sShape c) ≤ 60) = false → ObsEq [] [] ∧ AV.sv (lb false) = AV.sv (lb (shC c)))) ∧
 (decide (Core.kind c = 8) = false → (decide (Core.kind c = 9) = true → P_c_l1In (a4_c_sShape c) 1 60 ∧ (decide (1 ≤ (a4_c_sShape c) ∧ (a4_c_sShape c) ≤ 60) = true → P_c_l1In
 (a5_c_sShape c) 1 60 ∧ ObsEq [] [] ∧ AV.sv (lb (decide (1 ≤ (a5_c_sShape c) ∧ (a5_c_sShape c) ≤ 60))) = AV.sv (lb (shC c))) ∧ (decide (1 ≤ (a4_c_sShape c) ∧ (a4_c_sShape c) ≤ 60)
 = false → ObsEq [] [] ∧ AV.sv (lb false) = AV.sv (lb (shC c)))) ∧ (decide (Core.kind c = 9) = false → (decide (Core.kind c = 10) = true → (decide ((a4_c_sShape c) = 1) = true →
 ObsEq [] [] ∧ AV.sv (lb (decide ((a5_c_sShape c) = 0))) = AV.sv (lb (shC c))) ∧ (a8_c_sShape c)) ∧ (decide (Core.kind c = 10) = false → (decide (Core.kind c = 11) = true → (decide
 ((a4_c_sShape c) = 1) = true → ObsEq [] [] ∧ AV.sv (lb (decide ((a5_c_sShape c) = 1))) = AV.sv (lb (shC c))) ∧ (a8_c_sShape c)) ∧ (decide (Core.kind c = 11) = false → ObsEq [] []
 ∧ AV.sv (lb false) = AV.sv (lb (shC c)))))))))))))
abbrev a2_c_sShape (c : Core) := [Orc.br [Orc.br [Orc.fin []] [Orc.fin []]] [Orc.br [Orc.draw [], Orc.br [Orc.br [Orc.call [] [Ob.arr true 1 (List.map strC primNames)] (AV.sv
 (SV.one (AC.ref 0))), Orc.call [Mode.rd, Mode.rd, Mode.rd] [] (AV.sv (lb (decide (0 ≤ Core.number c ∧ Core.number c ≤ 13)))), Orc.fin []] [Orc.fin []]] [Orc.bool false, Orc.fin
 []]] [Orc.br [Orc.br [Orc.fin []] [Orc.fin []]] [Orc.br [Orc.br [Orc.fin []] [Orc.fin []]] [Orc.br [Orc.call [Mode.rd, Mode.rd, Mode.rd] [] (AV.sv (lb (decide (1 ≤ (a4_c_sShape c)
 ∧ (a4_c_sShape c) ≤ 9)))), Orc.br [Orc.fin []] [Orc.fin []]] [Orc.br [Orc.br [Orc.fin []] [Orc.fin []]] [Orc.br [Orc.call [Mode.rd, Mode.rd, Mode.rd] [] (AV.sv (lb (decide (2 ≤
 (a4_c_sShape c) ∧ (a4_c_sShape c) ≤ 60)))), Orc.br [Orc.fin []] [Orc.fin []]] [Orc.br [Orc.call [Mode.rd, Mode.rd, Mode.rd] [] (AV.sv (lb (decide (1 ≤ (a4_c_sShape c) ∧
 (a4_c_sShape c) ≤ 60)))), Orc.br [Orc.call [Mode.rd, Mode.rd, Mode.rd] [] (AV.sv (lb (decide (1 ≤ (a5_c_sShape c) ∧ (a5_c_sShape c) ≤ 60)))), Orc.fin []] [Orc.fin []]] [Orc.br
 [Orc.br [Orc.fin []] [Orc.fin []]] [Orc.br [Orc.br [Orc.fin []] [Orc.fin []]] [Orc.fin []]]]]]]]]]]]
abbrev a3_c_sShape (c : Core) := (decide (Core.kind c = 1) = true → (decide ((a4_c_sShape c) = 0) = true → (decide ((a5_c_sShape c) = 0) = true → P_c_sIsDatum (Core.datum c) ∧
 ObsEq [] [] ∧ AV.sv (lb (isDat (Core.datum c))) = AV.sv (lb (shC c))) ∧ (decide ((a5_c_sShape c) = 0) = false → ObsEq [] [] ∧ AV.sv (lb false) = AV.sv (lb (shC c)))) ∧ (decide
 ((a4_c_sShape c) = 0) = false → false = false ∧ ObsEq [] [] ∧ AV.sv (lb false) = AV.sv (lb (shC c))))
abbrev a6_c_sShape (c : Core) := [Orc.br [Orc.br [Orc.call [Mode.rd] [] (AV.sv (lb (isDat (Core.datum c)))), Orc.fin []] [Orc.fin []]] [Orc.bool false, Orc.fin []]]
abbrev a7_c_sShape (c : Core) := (decide (Core.number c ≠ 0) = true → P_c_l5Names c ∧ ((!decide (Core.kind c = 2 ∨ Core.kind c = 4)) = true → (decide (Core.kind c ≠ 3) = true →
 ObsEq [] [] ∧ AV.sv (lb false) = AV.sv (lb (shC c))) ∧ (decide (Core.kind c ≠ 3) = false → (a3_c_sShape c) ∧ (a1_c_sShape c))) ∧ ((!decide (Core.kind c = 2 ∨ Core.kind c = 4)) =
 false → false = false ∧ (a3_c_sShape c) ∧ (a1_c_sShape c)))
theorem run_c_sShape (c : Core) : aexec Try.prog (Option.getD (Func.body Try.f243) Code.skip) (entry [] [coreA c] 139) [Orc.br [Orc.call [Mode.rd, Mode.rd] [] (AV.sv (lb (decide
 (Core.datum c = Datum.mk 0 0 (ByteArray.mk #[]) [])))), Orc.br [Orc.bool true, Orc.fin []] [Orc.br [Orc.call [Mode.rd] [] (AV.sv (lb (decide (Core.kind c = 2 ∨ Core.kind c =
 4)))), Orc.br [Orc.br [Orc.fin []] [Orc.br (a6_c_sShape c) (a2_c_sShape c)]] [Orc.bool false, Orc.br (a6_c_sShape c) (a2_c_sShape c)]] [Orc.bool false, Orc.bool false, Orc.br
 (a6_c_sShape c) (a2_c_sShape c)]]] [Orc.bool false, Orc.br [Orc.call [Mode.rd] [] (AV.sv (lb (decide (Core.kind c = 2 ∨ Core.kind c = 4)))), Orc.br [Orc.br [Orc.fin []] [Orc.br
 (a6_c_sShape c) (a2_c_sShape c)]] [Orc.bool false, Orc.br (a6_c_sShape c) (a2_c_sShape c)]] [Orc.bool false, Orc.bool false, Orc.br (a6_c_sShape c) (a2_c_sShape c)]]] (finK
 Try.prog [ResultVar.tmp 2] [] (AV.sv (lb (shC c)))) = (List.length (List.map coreC (Core.kids c)) ≤ 9223372036854775807 → List.length (List.map intC (Core.params c)) ≤
 9223372036854775807 → (decide (Core.kind c ≠ 1) = true → P_c_sEqData (Core.datum c) (Datum.mk 0 0 (ByteArray.mk #[]) []) ∧ ((!decide (Core.datum c = Datum.mk 0 0 (ByteArray.mk
 #[]) [])) = true → true = true ∧ ObsEq [] [] ∧ AV.sv (lb false) = AV.sv (lb (shC c))) ∧ ((!decide (Core.datum c = Datum.mk 0 0 (ByteArray.mk #[]) [])) = false → (a7_c_sShape c) ∧
 (decide (Core.number c ≠ 0) = false → false = false ∧ false = false ∧ (a3_c_sShape c) ∧ (a1_c_sShape c)))) ∧ (decide (Core.kind c ≠ 1) = false → false = false ∧ (a7_c_sShape c) ∧
 (decide (Core.number c ≠ 0) = false → false = false ∧ false = false ∧ (a3_c_sShape c) ∧ (a1_c_sShape c)))) := by kernel_rfl
theorem c_sShape (c : Core)  : P_c_sShape c := by
  refine CallOK.ofRun wide (run_c_sShape c) Try.call243 Try.func243 rfl rfl rfl ?_
  try delta a4_c_sShape a5_c_sShape a8_c_sShape a1_c_sShape a2_c_sShape a3_c_sShape a6_c_sShape a7_c_sShape
  have e : primNames.length = 14 := rfl
  with_reducible repeat' (first | apply And.intro | exact flatI | exact flatS | exact rowLens | (intro; skip) | apply obsN | apply obsC | apply obA | apply obM | apply obB | apply svA | apply tupA | apply lcA | apply lcS | apply svC | apply liC | apply lbC | apply lsC | apply vIc | apply vBc | apply vSc | apply vLc | apply mapC | apply mIc | apply mOc | apply mSc | apply mLc | apply c_sEqData | apply c_l5Names | apply c_sIsDatum | apply c_l1In | apply c_sPrimitiveNames)
  all_goals (try simp only [std] at *)
  all_goals (try (first | with_reducible apply c_sEqData | with_reducible apply c_l5Names | with_reducible apply c_sIsDatum | with_reducible apply c_l1In | with_reducible apply c_sPrimitiveNames | (simp only [← List.map_append]; first | with_reducible apply c_sEqData | with_reducible apply c_l5Names | with_reducible apply c_sIsDatum | with_reducible apply c_l1In | with_reducible apply c_sPrimitiveNames)))
  all_goals (try (first | with_reducible rfl | omega | assumption | (refine (decide_eq_true ?_).symm; assumption) | (refine (decide_eq_false ?_).symm; assumption) | (refine rowGet ?_; (first | omega | (simp only [std]; omega) | grind)) | (refine getC ?_ rfl; (first | omega | (simp only [std]; omega) | grind)) | exact look_mI | exact look_mO | exact look_mO1 | exact look_mS | exact look_mL | exact upd_mI | exact upd_mO | exact del_mO | exact upd_mS | exact take_mL | (refine upd_mL ?_; grind) | (refine fill_step ?_ ?_; (first | omega | (simp only [std]; omega) | grind); (first | rfl | exact (Row.eq _).trans rfl)) | (refine fill_init ?_; (first | rfl | exact (Row.eq _).trans rfl)) | (show (_ : St) = _; rfl) | grind [shC, snocI, snocS, rowSnoc]))
abbrev P_c_sNodesC (c : Core) : Prop := CallOK Try.prog 162 [] [coreA c] [] (.sv (lb (okC c)))
def Tc_sNodesC_sLa (c : Core) (x0 : SV) : St := St.mk (regsOf 28 [(1, AV.sv (SV.one (AC.ptr 0 0))), (6, AV.sv (ll (List.map coreC (Core.kids c)))), (7, AV.sv (li (↑(List.length
 (List.map coreC (Core.kids c))) : Int))), (8, AV.sv x0)]) [Ob.box (vals (coreF c))] 0 
def Lc_sNodesC_sLa (c : Core) (k : Nat) : St := Tc_sNodesC_sLa c (li (↑k : Int)) 
def Ic_sNodesC_sLa (c : Core) : Nat → St → Prop := Head (Lc_sNodesC_sLa c) (fun k => k ≤ List.length (Core.kids c) ∧ List.length (Core.kids c) ≤ 9223372036854775807 ∧ List.all
 (List.take k (Core.kids c)) okC = true ∧ List.all (List.take k (Core.kids c)) (sqC c) = true) fun k => List.length (Core.kids c) - k 
def W0c_sNodesC_sLa (c : Core) : St := St.mk (regsOf 28 [(1, AV.sv (SV.one (AC.ptr 0 0)))]) [Ob.box (vals (coreF c))] 0 
def W1c_sNodesC_sLa (c : Core) (x0 : SV) : St := St.mk (regsOf 28 [(2, AV.sv x0)]) [] 0 
def Yc_sNodesC_sLa (c : Core) : List (Prop × AEx × St) := [(List.all (Core.kids c) okC = true ∧ List.all (Core.kids c) (sqC c) = true, AEx.exit 0, W0c_sNodesC_sLa c), (¬(List.all
 (Core.kids c) okC = true ∧ List.all (Core.kids c) (sqC c) = true), AEx.ret, W1c_sNodesC_sLa c (lb false))]
theorem Hc_sNodesC_sLa {c : Core} {k : Nat} {m : Nat} (h : (fun k => k ≤ List.length (Core.kids c) ∧ List.length (Core.kids c) ≤ 9223372036854775807 ∧ List.all (List.take k
 (Core.kids c)) okC = true ∧ List.all (List.take k (Core.kids c)) (sqC c) = true) k) (hm : (fun k => List.length (Core.kids c) - k) k = m) : Ic_sNodesC_sLa c m (Lc_sNodesC_sLa c k)
 := hm ▸ Head.mk h
theorem Ec_sNodesC_sLa {c : Core} {k : Nat} {x0 : SV} (h0 : x0 = (li (↑k : Int))) : Tc_sNodesC_sLa c x0 = Lc_sNodesC_sLa c k := by
  rw [h0]
  rfl
theorem EW1c_sNodesC_sLa {c : Core} {x0 y0 : SV} (h0 : x0 = y0) : W1c_sNodesC_sLa c x0 = W1c_sNodesC_sLa c y0 := by rw [h0]
theorem run_c_sNodesC_sLa (c : Core) (k : Nat) : aexec Try.prog (loopAt Try.f162 0) (Lc_sNodesC_sLa c k) [Orc.br [Orc.cells (coreF (List.getD (Core.kids c) k default)), Orc.call
 [Mode.rd] [] (AV.sv (lb (okC (List.getD (Core.kids c) k default)))), Orc.br [Orc.bool true, Orc.ghost (Ghost.sel [] [2]), Orc.out 1] [Orc.br [Orc.br [Orc.ghost (Ghost.sel [] [2]),
 Orc.out 1] [Orc.ghost (Ghost.sel [0] [1, 6, 7, 8]), Orc.goto (List.length (Core.kids c) - (k + 1)) (Lc_sNodesC_sLa c (k + 1))]] [Orc.bool false, Orc.ghost (Ghost.sel [0] [1, 6, 7,
 8]), Orc.goto (List.length (Core.kids c) - (k + 1)) (Lc_sNodesC_sLa c (k + 1))]]] [Orc.ghost (Ghost.sel [0] [1]), Orc.out 0]] (loopK (Ic_sNodesC_sLa c) (Yc_sNodesC_sLa c)
 (List.length (Core.kids c) - k)) = ((decide ((↑k : Int) < (↑(List.length (List.map coreC (Core.kids c))) : Int)) = true → (0 ≤ (↑k : Int) ∧ (List.map coreC (Core.kids
 c))[Int.toNat (↑k : Int)]? = some (coreF (List.getD (Core.kids c) k default))) ∧ P_c_sNodesC (List.getD (Core.kids c) k default) ∧ ((!okC (List.getD (Core.kids c) k default)) =
 true → true = true ∧ ¬(List.all (Core.kids c) okC = true ∧ List.all (Core.kids c) (sqC c) = true) ∧ W1c_sNodesC_sLa c (lb false) = W1c_sNodesC_sLa c (lb false)) ∧ ((!okC
 (List.getD (Core.kids c) k default)) = false → (decide (Core.kind c = 8) = true → (decide (Core.kind (List.getD (Core.kids c) k default) = 8) = true → ¬(List.all (Core.kids c) okC
 = true ∧ List.all (Core.kids c) (sqC c) = true) ∧ W1c_sNodesC_sLa c (lb false) = W1c_sNodesC_sLa c (lb false)) ∧ (decide (Core.kind (List.getD (Core.kids c) k default) = 8) =
 false → rng IntKind.i64 ((↑k : Int) + 1) ∧ List.length (Core.kids c) - (k + 1) < List.length (Core.kids c) - k ∧ Tc_sNodesC_sLa c (li ((↑k : Int) + 1)) = Lc_sNodesC_sLa c (k + 1)
 ∧ Ic_sNodesC_sLa c (List.length (Core.kids c) - (k + 1)) (Lc_sNodesC_sLa c (k + 1)))) ∧ (decide (Core.kind c = 8) = false → false = false ∧ rng IntKind.i64 ((↑k : Int) + 1) ∧
 List.length (Core.kids c) - (k + 1) < List.length (Core.kids c) - k ∧ Tc_sNodesC_sLa c (li ((↑k : Int) + 1)) = Lc_sNodesC_sLa c (k + 1) ∧ Ic_sNodesC_sLa c (List.length (Core.kids
 c) - (k + 1)) (Lc_sNodesC_sLa c (k + 1))))) ∧ (decide ((↑k : Int) < (↑(List.length (List.map coreC (Core.kids c))) : Int)) = false → (List.all (Core.kids c) okC = true ∧ List.all
 (Core.kids c) (sqC c) = true) ∧ W0c_sNodesC_sLa c = W0c_sNodesC_sLa c)) := by kernel_rfl
theorem Sc_sNodesC_sLa (c : Core) (ih : ∀ (z : Core), z ∈ Core.kids c → P_c_sNodesC z)  : LoopSem Try.prog (loopAt Try.f162 0) (Ic_sNodesC_sLa c) (Yc_sNodesC_sLa c) := by
  refine LoopSem.ofHead wide fun k h => ⟨_, _, run_c_sNodesC_sLa c k, ?_⟩
  with_reducible repeat' (first | apply And.intro | exact flatI | exact flatS | exact rowLens | exact ih | (intro; skip) | apply obsN | apply obsC | apply obA | apply obM | apply obB | apply svA | apply tupA | apply lcA | apply lcS | apply svC | apply liC | apply lbC | apply lsC | apply vIc | apply vBc | apply vSc | apply vLc | apply mapC | apply mIc | apply mOc | apply mSc | apply mLc | apply Hc_sNodesC_sLa | apply Ec_sNodesC_sLa | apply EW1c_sNodesC_sLa | apply c_sShape | apply ih)
  all_goals (try simp only [std] at *)
  all_goals (try (first | with_reducible apply c_sShape | with_reducible apply ih | (simp only [← List.map_append]; first | with_reducible apply c_sShape | with_reducible apply ih)))
  all_goals (try (first | with_reducible rfl | omega | assumption | (refine (decide_eq_true ?_).symm; assumption) | (refine (decide_eq_false ?_).symm; assumption) | (refine rowGet ?_; (first | omega | (simp only [std]; omega) | grind)) | (refine getC ?_ rfl; (first | omega | (simp only [std]; omega) | grind)) | exact look_mI | exact look_mO | exact look_mO1 | exact look_mS | exact look_mL | exact upd_mI | exact upd_mO | exact del_mO | exact upd_mS | exact take_mL | (refine upd_mL ?_; grind) | (refine fill_step ?_ ?_; (first | omega | (simp only [std]; omega) | grind); (first | rfl | exact (Row.eq _).trans rfl)) | (refine fill_init ?_; (first | rfl | exact (Row.eq _).trans rfl)) | (show (_ : St) = _; rfl) | grind [take_get, getD_mem', sqC, snocI, snocS, rowSnoc]))
theorem run_c_sNodesC_s (c : Core) : aexec Try.prog (Option.getD (Func.body Try.f162) Code.skip) (entry [] [coreA c] 28) [Orc.ghost (Ghost.sel [0] [1, 6, 7, 8]), Orc.loop
 (List.length (Core.kids c) - 0) (Lc_sNodesC_sLa c 0) (Ic_sNodesC_sLa c) [(List.all (Core.kids c) okC = true ∧ List.all (Core.kids c) (sqC c) = true, AEx.exit 0, W0c_sNodesC_sLa c,
 [Orc.call [Mode.rd] [] (AV.sv (lb (shC c))), Orc.fin []]), (¬(List.all (Core.kids c) okC = true ∧ List.all (Core.kids c) (sqC c) = true), AEx.ret, W1c_sNodesC_sLa c (lb false),
 [Orc.fin []])]] (finK Try.prog [ResultVar.tmp 2] [] (AV.sv (lb (okC c)))) = (List.length (List.map coreC (Core.kids c)) ≤ 9223372036854775807 → Tc_sNodesC_sLa c (li 0) =
 Lc_sNodesC_sLa c 0 ∧ Ic_sNodesC_sLa c (List.length (Core.kids c) - 0) (Lc_sNodesC_sLa c 0) ∧ LoopSem Try.prog (loopAt Try.f162 0) (Ic_sNodesC_sLa c) (Yc_sNodesC_sLa c) ∧ (List.all
 (Core.kids c) okC = true ∧ List.all (Core.kids c) (sqC c) = true → P_c_sShape c ∧ ObsEq [] [] ∧ AV.sv (lb (shC c)) = AV.sv (lb (okC c))) ∧ ((List.all (Core.kids c) okC = true ∧
 List.all (Core.kids c) (sqC c) = true → False) → ObsEq [] [] ∧ AV.sv (lb false) = AV.sv (lb (okC c))) ∧ True) := by kernel_rfl
theorem c_sNodesC_s (c : Core) (ih : ∀ z ∈ c.kids, P_c_sNodesC z)  : P_c_sNodesC c := by
  refine CallOK.ofRun wide (run_c_sNodesC_s c) Try.call162 Try.func162 rfl rfl rfl ?_
  with_reducible repeat' (first | apply And.intro | exact flatI | exact flatS | exact rowLens | exact ih | (intro; skip) | apply obsN | apply obsC | apply obA | apply obM | apply obB | apply svA | apply tupA | apply lcA | apply lcS | apply svC | apply liC | apply lbC | apply lsC | apply vIc | apply vBc | apply vSc | apply vLc | apply mapC | apply mIc | apply mOc | apply mSc | apply mLc | apply Hc_sNodesC_sLa | apply Ec_sNodesC_sLa | apply Sc_sNodesC_sLa | apply EW1c_sNodesC_sLa | apply c_sShape)
  all_goals (try simp only [std] at *)
  all_goals (try (first | with_reducible apply c_sShape | with_reducible apply ih | (simp only [← List.map_append]; first | with_reducible apply c_sShape | with_reducible apply ih)))
  all_goals (try (first | with_reducible rfl | omega | assumption | (refine (decide_eq_true ?_).symm; assumption) | (refine (decide_eq_false ?_).symm; assumption) | (refine rowGet ?_; (first | omega | (simp only [std]; omega) | grind)) | (refine getC ?_ rfl; (first | omega | (simp only [std]; omega) | grind)) | exact look_mI | exact look_mO | exact look_mO1 | exact look_mS | exact look_mL | exact upd_mI | exact upd_mO | exact del_mO | exact upd_mS | exact take_mL | (refine upd_mL ?_; grind) | (refine fill_step ?_ ?_; (first | omega | (simp only [std]; omega) | grind); (first | rfl | exact (Row.eq _).trans rfl)) | (refine fill_init ?_; (first | rfl | exact (Row.eq _).trans rfl)) | (show (_ : St) = _; rfl) | grind [okC_eq, shI, snocI, snocS, rowSnoc]))
theorem c_sNodesC (c : Core) : P_c_sNodesC c := Core.ind (P := fun c => P_c_sNodesC c) (fun c ih => c_sNodesC_s c ih) c
abbrev P_c_sIsCore (c : Core) (G : List Int) : Prop := CallOK Try.prog 59 [] [coreA c, ll (G.map intC)] [] (.sv (lb (isCor c G)))
def Tc_sIsCoreLa (c : Core) (G : List Int) (x0 : SV) : St := St.mk (regsOf 41 [(1, AV.sv (ll (List.map intC G))), (30, AV.sv (SV.one (AC.ref 0))), (31, AV.sv (li (↑(List.length
 (List.map intC (fre c [] []))) : Int))), (32, AV.sv x0)]) [Ob.arr true 1 (List.map intC (fre c [] []))] 0 
def Lc_sIsCoreLa (c : Core) (G : List Int) (k : Nat) : St := Tc_sIsCoreLa c G (li (↑k : Int)) 
def Ic_sIsCoreLa (c : Core) (G : List Int) : Nat → St → Prop := Head (Lc_sIsCoreLa c G) (fun k => k ≤ List.length (fre c [] []) ∧ List.length (fre c [] []) ≤ 9223372036854775807 ∧
 (List.all (List.take k (fre c [] [])) fun n => decide (n ∈ G)) = true) fun k => List.length (fre c [] []) - k 
def W0c_sIsCoreLa (c : Core) (G : List Int) : St := St.mk (regsOf 41 []) [] 0 
def W1c_sIsCoreLa (c : Core) (G : List Int) (x0 : SV) : St := St.mk (regsOf 41 [(4, AV.sv x0)]) [] 0 
def Yc_sIsCoreLa (c : Core) (G : List Int) : List (Prop × AEx × St) := [((List.all (fre c [] []) fun n => decide (n ∈ G)) = true, AEx.exit 0, W0c_sIsCoreLa c G), ((List.all (fre c
 [] []) fun n => decide (n ∈ G)) = false, AEx.ret, W1c_sIsCoreLa c G (lb false))]
theorem Hc_sIsCoreLa {c : Core} {G : List Int} {k : Nat} {m : Nat} (h : (fun k => k ≤ List.length (fre c [] []) ∧ List.length (fre c [] []) ≤ 9223372036854775807 ∧ (List.all
 (List.take k (fre c [] [])) fun n => decide (n ∈ G)) = true) k) (hm : (fun k => List.length (fre c [] []) - k) k = m) : Ic_sIsCoreLa c G m (Lc_sIsCoreLa c G k) := hm ▸ Head.mk h
theorem Ec_sIsCoreLa {c : Core} {G : List Int} {k : Nat} {x0 : SV} (h0 : x0 = (li (↑k : Int))) : Tc_sIsCoreLa c G x0 = Lc_sIsCoreLa c G k := by
  rw [h0]
  rfl
theorem EW1c_sIsCoreLa {c : Core} {G : List Int} {x0 y0 : SV} (h0 : x0 = y0) : W1c_sIsCoreLa c G x0 = W1c_sIsCoreLa c G y0 := by rw [h0]
theorem run_c_sIsCoreLa (c : Core) (G : List Int) (k : Nat) : aexec Try.prog (loopAt Try.f59 0) (Lc_sIsCoreLa c G k) [Orc.br [Orc.cells (intC (List.getD (fre c [] []) (Int.toNat
 (↑k : Int)) default)), Orc.call [Mode.rd, Mode.rd] [] (AV.sv (lb (decide (List.getD (fre c [] []) (Int.toNat (↑k : Int)) 0 ∈ G)))), Orc.br [Orc.ghost (Ghost.sel [] [4]), Orc.out
 1] [Orc.ghost (Ghost.sel [0] [1, 30, 31, 32]), Orc.goto (List.length (fre c [] []) - (k + 1)) (Lc_sIsCoreLa c G (k + 1))]] [Orc.ghost (Ghost.sel [] []), Orc.out 0]] (loopK
 (Ic_sIsCoreLa c G) (Yc_sIsCoreLa c G) (List.length (fre c [] []) - k)) = ((decide ((↑k : Int) < (↑(List.length (List.map intC (fre c [] []))) : Int)) = true → (0 ≤ (↑k : Int) ∧
 Int.toNat (↑k : Int) < List.length (List.map intC (fre c [] []))) ∧ (List.map intC (fre c [] []))[Int.toNat (↑k : Int)]? = some [cI (List.getD (fre c [] []) (Int.toNat (↑k : Int))
 0)] ∧ P_c_sHas G (List.getD (fre c [] []) (Int.toNat (↑k : Int)) 0) ∧ ((!decide (List.getD (fre c [] []) (Int.toNat (↑k : Int)) 0 ∈ G)) = true → (List.all (fre c [] []) fun n =>
 decide (n ∈ G)) = false ∧ W1c_sIsCoreLa c G (lb false) = W1c_sIsCoreLa c G (lb false)) ∧ ((!decide (List.getD (fre c [] []) (Int.toNat (↑k : Int)) 0 ∈ G)) = false → rng
 IntKind.i64 ((↑k : Int) + 1) ∧ List.length (fre c [] []) - (k + 1) < List.length (fre c [] []) - k ∧ Tc_sIsCoreLa c G (li ((↑k : Int) + 1)) = Lc_sIsCoreLa c G (k + 1) ∧
 Ic_sIsCoreLa c G (List.length (fre c [] []) - (k + 1)) (Lc_sIsCoreLa c G (k + 1)))) ∧ (decide ((↑k : Int) < (↑(List.length (List.map intC (fre c [] []))) : Int)) = false →
 (List.all (fre c [] []) fun n => decide (n ∈ G)) = true ∧ W0c_sIsCoreLa c G = W0c_sIsCoreLa c G)) := by kernel_rfl
theorem Sc_sIsCoreLa (c : Core) (G : List Int) (h : wC c ≤ 100000000 ∧ List.length G ≤ 100000000)  : LoopSem Try.prog (loopAt Try.f59 0) (Ic_sIsCoreLa c G) (Yc_sIsCoreLa c G) := by
  refine LoopSem.ofHead wide fun k h => ⟨_, _, run_c_sIsCoreLa c G k, ?_⟩
  with_reducible repeat' (first | apply And.intro | exact flatI | exact flatS | exact rowLens | (intro; skip) | apply obsN | apply obsC | apply obA | apply obM | apply obB | apply svA | apply tupA | apply lcA | apply lcS | apply svC | apply liC | apply lbC | apply lsC | apply vIc | apply vBc | apply vSc | apply vLc | apply mapC | apply mIc | apply mOc | apply mSc | apply mLc | apply Hc_sIsCoreLa | apply Ec_sIsCoreLa | apply EW1c_sIsCoreLa | apply c_sSmall | apply c_sDepC | apply c_sNodesC | apply c_l2Ints | apply c_sBound | apply c_sUniq | apply c_sFree | apply c_sHas)
  all_goals (try simp only [std] at *)
  all_goals (try (first | with_reducible apply c_sSmall | with_reducible apply c_sDepC | with_reducible apply c_sNodesC | with_reducible apply c_l2Ints | with_reducible apply c_sBound | with_reducible apply c_sUniq | with_reducible apply c_sFree | with_reducible apply c_sHas | (simp only [← List.map_append]; first | with_reducible apply c_sSmall | with_reducible apply c_sDepC | with_reducible apply c_sNodesC | with_reducible apply c_l2Ints | with_reducible apply c_sBound | with_reducible apply c_sUniq | with_reducible apply c_sFree | with_reducible apply c_sHas)))
  all_goals (try (first | with_reducible rfl | omega | assumption | (refine (decide_eq_true ?_).symm; assumption) | (refine (decide_eq_false ?_).symm; assumption) | (refine rowGet ?_; (first | omega | (simp only [std]; omega) | grind)) | (refine getC ?_ rfl; (first | omega | (simp only [std]; omega) | grind)) | exact look_mI | exact look_mO | exact look_mO1 | exact look_mS | exact look_mL | exact upd_mI | exact upd_mO | exact del_mO | exact upd_mS | exact take_mL | (refine upd_mL ?_; grind) | (refine fill_step ?_ ?_; (first | omega | (simp only [std]; omega) | grind); (first | rfl | exact (Row.eq _).trans rfl)) | (refine fill_init ?_; (first | rfl | exact (Row.eq _).trans rfl)) | (show (_ : St) = _; rfl) | grind [take_get, snocI, snocS, rowSnoc]))
theorem run_c_sIsCore (c : Core) (G : List Int) : aexec Try.prog (Option.getD (Func.body Try.f59) Code.skip) (entry [] [coreA c, ll (List.map intC G)] 41) [Orc.draw [(18, [25,
 34])], Orc.call [Mode.rd] [] (AV.sv (lb (decide (sizeC c ≤ 3000)))), Orc.br [Orc.bool true, Orc.bool true, Orc.bool true, Orc.fin []] [Orc.call [Mode.rd] [] (AV.sv (li (↑(depC c)
 : Int))), Orc.br [Orc.bool true, Orc.bool true, Orc.fin []] [Orc.call [Mode.rd] [] (AV.sv (lb (okC c))), Orc.br [Orc.bool true, Orc.fin []] [Orc.call [Mode.rd] [Ob.arr true 1
 (List.map intC G)] (AV.sv (SV.one (AC.ref 0))), Orc.call [Mode.rd, Mode.own true 1] [Ob.dead, Ob.arr true 1 (List.map intC ([] ++ bnd c))] (AV.sv (SV.one (AC.ref 1))), Orc.call
 [Mode.rd] [] (AV.sv (lb (okU (G ++ bnd c)))), Orc.br [Orc.fin []] [Orc.call [Mode.rd] [Ob.arr true 1 (List.map intC (fre c [] []))] (AV.sv (SV.one (AC.ref 0))), Orc.ghost
 (Ghost.sel [42] [1, 30, 31, 32]), Orc.loop (List.length (fre c [] []) - 0) (Lc_sIsCoreLa c G 0) (Ic_sIsCoreLa c G) [((List.all (fre c [] []) fun n => decide (n ∈ G)) = true,
 AEx.exit 0, W0c_sIsCoreLa c G, [Orc.fin []]), ((List.all (fre c [] []) fun n => decide (n ∈ G)) = false, AEx.ret, W1c_sIsCoreLa c G (lb false), [Orc.fin []])]]]]]] (finK Try.prog
 [ResultVar.tmp 4] [] (AV.sv (lb (isCor c G)))) = (P_c_sSmall c ∧ ((!decide (sizeC c ≤ 3000)) = true → true = true ∧ true = true ∧ true = true ∧ ObsEq [] [] ∧ AV.sv (lb false) =
 AV.sv (lb (isCor c G))) ∧ ((!decide (sizeC c ≤ 3000)) = false → P_c_sDepC c ∧ (decide (150 < (↑(depC c) : Int)) = true → true = true ∧ true = true ∧ ObsEq [] [] ∧ AV.sv (lb false)
 = AV.sv (lb (isCor c G))) ∧ (decide (150 < (↑(depC c) : Int)) = false → P_c_sNodesC c ∧ ((!okC c) = true → true = true ∧ ObsEq [] [] ∧ AV.sv (lb false) = AV.sv (lb (isCor c G))) ∧
 ((!okC c) = false → P_c_l2Ints G ∧ P_c_sBound c [] ∧ (List.length (List.map intC G) + List.length (List.map intC (bnd c))) * 8 ≤ 140737488355328 ∧ CallOK Try.prog 163 [] [ll
 (List.map intC G ++ List.map intC (bnd c))] [] (AV.sv (lb (okU (G ++ bnd c)))) ∧ ((!okU (G ++ bnd c)) = true → ObsEq [] [] ∧ AV.sv (lb false) = AV.sv (lb (isCor c G))) ∧ ((!okU (G
 ++ bnd c)) = false → P_c_sFree c ∧ (List.length (List.map intC (fre c [] [])) ≤ 9223372036854775807 → Tc_sIsCoreLa c G (li 0) = Lc_sIsCoreLa c G 0 ∧ Ic_sIsCoreLa c G (List.length
 (fre c [] []) - 0) (Lc_sIsCoreLa c G 0) ∧ LoopSem Try.prog (loopAt Try.f59 0) (Ic_sIsCoreLa c G) (Yc_sIsCoreLa c G) ∧ ((List.all (fre c [] []) fun n => decide (n ∈ G)) = true →
 ObsEq [] [] ∧ AV.sv (lb true) = AV.sv (lb (isCor c G))) ∧ ((List.all (fre c [] []) fun n => decide (n ∈ G)) = false → ObsEq [] [] ∧ AV.sv (lb false) = AV.sv (lb (isCor c G))) ∧
 True)))))) := by kernel_rfl
theorem c_sIsCore (c : Core) (G : List Int) (h : wC c ≤ 100000000 ∧ G.length ≤ 100000000)  : P_c_sIsCore c G := by
  refine CallOK.ofRun wide (run_c_sIsCore c G) Try.call59 Try.func59 rfl rfl rfl ?_
  have g1 := bnd_le c
  have g2 := fre_len c [] []
  with_reducible repeat' (first | apply And.intro | exact flatI | exact flatS | exact rowLens | (intro; skip) | apply obsN | apply obsC | apply obA | apply obM | apply obB | apply svA | apply tupA | apply lcA | apply lcS | apply svC | apply liC | apply lbC | apply lsC | apply vIc | apply vBc | apply vSc | apply vLc | apply mapC | apply mIc | apply mOc | apply mSc | apply mLc | apply Hc_sIsCoreLa | apply Ec_sIsCoreLa | apply Sc_sIsCoreLa | apply EW1c_sIsCoreLa | apply c_sSmall | apply c_sDepC | apply c_sNodesC | apply c_l2Ints | apply c_sBound | apply c_sUniq | apply c_sFree | apply c_sHas)
  all_goals (try simp only [std] at *)
  all_goals (try (first | with_reducible apply c_sSmall | with_reducible apply c_sDepC | with_reducible apply c_sNodesC | with_reducible apply c_l2Ints | with_reducible apply c_sBound | with_reducible apply c_sUniq | with_reducible apply c_sFree | with_reducible apply c_sHas | (simp only [← List.map_append]; first | with_reducible apply c_sSmall | with_reducible apply c_sDepC | with_reducible apply c_sNodesC | with_reducible apply c_l2Ints | with_reducible apply c_sBound | with_reducible apply c_sUniq | with_reducible apply c_sFree | with_reducible apply c_sHas)))
  all_goals (try (first | with_reducible rfl | omega | assumption | (refine (decide_eq_true ?_).symm; assumption) | (refine (decide_eq_false ?_).symm; assumption) | (refine rowGet ?_; (first | omega | (simp only [std]; omega) | grind)) | (refine getC ?_ rfl; (first | omega | (simp only [std]; omega) | grind)) | exact look_mI | exact look_mO | exact look_mO1 | exact look_mS | exact look_mL | exact upd_mI | exact upd_mO | exact del_mO | exact upd_mS | exact take_mL | (refine upd_mL ?_; grind) | (refine fill_step ?_ ?_; (first | omega | (simp only [std]; omega) | grind); (first | rfl | exact (Row.eq _).trans rfl)) | (refine fill_init ?_; (first | rfl | exact (Row.eq _).trans rfl)) | (show (_ : St) = _; rfl) | grind [isCor, smC, snocI, snocS, rowSnoc]))
abbrev P_c_sValid (c : Core) : Prop := CallOK Try.prog 172 [] [coreA c] [] (.sv (lb (valC c)))
theorem run_c_sValid (c : Core) : aexec Try.prog (Option.getD (Func.body Try.f172) Code.skip) (entry [] [coreA c] 11) [Orc.draw [], Orc.call [Mode.rd] [] (AV.sv (lb (decide (sizeC
 c ≤ 3000)))), Orc.br [Orc.call [Mode.rd] [Ob.arr true 1 (List.map intC (fre c [] []))] (AV.sv (SV.one (AC.ref 0))), Orc.call [Mode.rd, Mode.rd] [] (AV.sv (lb (isCor c (fre c []
 [])))), Orc.fin []] [Orc.fin []]] (finK Try.prog [ResultVar.tmp 2] [] (AV.sv (lb (valC c)))) = (P_c_sSmall c ∧ (decide (sizeC c ≤ 3000) = true → P_c_sFree c ∧ P_c_sIsCore c (fre c
 [] []) ∧ ObsEq [] [] ∧ AV.sv (lb (isCor c (fre c [] []))) = AV.sv (lb (valC c))) ∧ (decide (sizeC c ≤ 3000) = false → ObsEq [] [] ∧ AV.sv (lb false) = AV.sv (lb (valC c)))) := by
 kernel_rfl
theorem c_sValid (c : Core) (h : wC c ≤ 90000000)  : P_c_sValid c := by
  refine CallOK.ofRun wide (run_c_sValid c) Try.call172 Try.func172 rfl rfl rfl ?_
  have g2 := fre_len c [] []
  with_reducible repeat' (first | apply And.intro | exact flatI | exact flatS | exact rowLens | (intro; skip) | apply obsN | apply obsC | apply obA | apply obM | apply obB | apply svA | apply tupA | apply lcA | apply lcS | apply svC | apply liC | apply lbC | apply lsC | apply vIc | apply vBc | apply vSc | apply vLc | apply mapC | apply mIc | apply mOc | apply mSc | apply mLc | apply c_sSmall | apply c_sIsCore | apply c_sFree)
  all_goals (try simp only [std] at *)
  all_goals (try (first | with_reducible apply c_sSmall | with_reducible apply c_sIsCore | with_reducible apply c_sFree | (simp only [← List.map_append]; first | with_reducible apply c_sSmall | with_reducible apply c_sIsCore | with_reducible apply c_sFree)))
  all_goals (try (first | with_reducible rfl | omega | assumption | (refine (decide_eq_true ?_).symm; assumption) | (refine (decide_eq_false ?_).symm; assumption) | (refine rowGet ?_; (first | omega | (simp only [std]; omega) | grind)) | (refine getC ?_ rfl; (first | omega | (simp only [std]; omega) | grind)) | exact look_mI | exact look_mO | exact look_mO1 | exact look_mS | exact look_mL | exact upd_mI | exact upd_mO | exact del_mO | exact upd_mS | exact take_mL | (refine upd_mL ?_; grind) | (refine fill_step ?_ ?_; (first | omega | (simp only [std]; omega) | grind); (first | rfl | exact (Row.eq _).trans rfl)) | (refine fill_init ?_; (first | rfl | exact (Row.eq _).trans rfl)) | (show (_ : St) = _; rfl) | grind [isCor, smC, valC, snocI, snocS, rowSnoc]))
abbrev P_c_iShape (c : Core) : Prop := CallOK Try.prog 244 [] [coreA c] [] (.sv (lb (shI c)))
def Tc_iShapeLa (c : Core) (x0 : SV) : St := St.mk (regsOf 175 [(133, AV.sv (ll (List.map coreC (Core.kids c)))), (134, AV.sv (li (↑(List.length (List.map coreC (Core.kids c))) :
 Int))), (135, AV.sv x0)]) [] 0 
def Lc_iShapeLa (c : Core) (k : Nat) : St := Tc_iShapeLa c (li (↑k : Int)) 
def Ic_iShapeLa (c : Core) : Nat → St → Prop := Head (Lc_iShapeLa c) (fun k => k ≤ List.length (Core.kids c) ∧ List.length (Core.kids c) ≤ 9223372036854775807 ∧ (List.all
 (List.take k (Core.kids c)) fun x => !decide (Core.kind x = 8)) = true) fun k => List.length (Core.kids c) - k 
def W0c_iShapeLa (c : Core) : St := St.mk (regsOf 175 []) [] 0 
def W1c_iShapeLa (c : Core) (x0 : SV) : St := St.mk (regsOf 175 [(2, AV.sv x0)]) [] 0 
def Yc_iShapeLa (c : Core) : List (Prop × AEx × St) := [((List.all (Core.kids c) fun x => !decide (Core.kind x = 8)) = true, AEx.exit 1, W0c_iShapeLa c), ((List.all (Core.kids c)
 fun x => !decide (Core.kind x = 8)) = false, AEx.ret, W1c_iShapeLa c (lb false))]
theorem Hc_iShapeLa {c : Core} {k : Nat} {m : Nat} (h : (fun k => k ≤ List.length (Core.kids c) ∧ List.length (Core.kids c) ≤ 9223372036854775807 ∧ (List.all (List.take k
 (Core.kids c)) fun x => !decide (Core.kind x = 8)) = true) k) (hm : (fun k => List.length (Core.kids c) - k) k = m) : Ic_iShapeLa c m (Lc_iShapeLa c k) := hm ▸ Head.mk h
theorem Ec_iShapeLa {c : Core} {k : Nat} {x0 : SV} (h0 : x0 = (li (↑k : Int))) : Tc_iShapeLa c x0 = Lc_iShapeLa c k := by
  rw [h0]
  rfl
theorem EW1c_iShapeLa {c : Core} {x0 y0 : SV} (h0 : x0 = y0) : W1c_iShapeLa c x0 = W1c_iShapeLa c y0 := by rw [h0]
theorem run_c_iShapeLa (c : Core) (k : Nat) : aexec Try.prog (loopAt Try.f244 0) (Lc_iShapeLa c k) [Orc.br [Orc.cells (coreF (List.getD (Core.kids c) k default)), Orc.br [Orc.ghost
 (Ghost.sel [] [2]), Orc.out 1] [Orc.ghost (Ghost.sel [] [133, 134, 135]), Orc.goto (List.length (Core.kids c) - (k + 1)) (Lc_iShapeLa c (k + 1))]] [Orc.ghost (Ghost.sel [] []),
 Orc.out 0]] (loopK (Ic_iShapeLa c) (Yc_iShapeLa c) (List.length (Core.kids c) - k)) = ((decide ((↑k : Int) < (↑(List.length (List.map coreC (Core.kids c))) : Int)) = true → (0 ≤
 (↑k : Int) ∧ (List.map coreC (Core.kids c))[Int.toNat (↑k : Int)]? = some (coreF (List.getD (Core.kids c) k default))) ∧ (decide (Core.kind (List.getD (Core.kids c) k default) =
 8) = true → (List.all (Core.kids c) fun x => !decide (Core.kind x = 8)) = false ∧ W1c_iShapeLa c (lb false) = W1c_iShapeLa c (lb false)) ∧ (decide (Core.kind (List.getD (Core.kids
 c) k default) = 8) = false → rng IntKind.i64 ((↑k : Int) + 1) ∧ List.length (Core.kids c) - (k + 1) < List.length (Core.kids c) - k ∧ Tc_iShapeLa c (li ((↑k : Int) + 1)) =
 Lc_iShapeLa c (k + 1) ∧ Ic_iShapeLa c (List.length (Core.kids c) - (k + 1)) (Lc_iShapeLa c (k + 1)))) ∧ (decide ((↑k : Int) < (↑(List.length (List.map coreC (Core.kids c))) :
 Int)) = false → (List.all (Core.kids c) fun x => !decide (Core.kind x = 8)) = true ∧ W0c_iShapeLa c = W0c_iShapeLa c)) := by kernel_rfl
theorem Sc_iShapeLa (c : Core)  : LoopSem Try.prog (loopAt Try.f244 0) (Ic_iShapeLa c) (Yc_iShapeLa c) := by
  refine LoopSem.ofHead wide fun k h => ⟨_, _, run_c_iShapeLa c k, ?_⟩
  with_reducible repeat' (first | apply And.intro | exact flatI | exact flatS | exact rowLens | (intro; skip) | apply obsN | apply obsC | apply obA | apply obM | apply obB | apply svA | apply tupA | apply lcA | apply lcS | apply svC | apply liC | apply lbC | apply lsC | apply vIc | apply vBc | apply vSc | apply vLc | apply mapC | apply mIc | apply mOc | apply mSc | apply mLc | apply Hc_iShapeLa | apply Ec_iShapeLa | apply EW1c_iShapeLa | apply c_iEqData | apply c_iIsDatum | apply c_iPrimitiveNames)
  all_goals (try simp only [std] at *)
  all_goals (try (first | with_reducible apply c_iEqData | with_reducible apply c_iIsDatum | with_reducible apply c_iPrimitiveNames | (simp only [← List.map_append]; first | with_reducible apply c_iEqData | with_reducible apply c_iIsDatum | with_reducible apply c_iPrimitiveNames)))
  all_goals (try (first | with_reducible rfl | omega | assumption | (refine (decide_eq_true ?_).symm; assumption) | (refine (decide_eq_false ?_).symm; assumption) | (refine rowGet ?_; (first | omega | (simp only [std]; omega) | grind)) | (refine getC ?_ rfl; (first | omega | (simp only [std]; omega) | grind)) | exact look_mI | exact look_mO | exact look_mO1 | exact look_mS | exact look_mL | exact upd_mI | exact upd_mO | exact del_mO | exact upd_mS | exact take_mL | (refine upd_mL ?_; grind) | (refine fill_step ?_ ?_; (first | omega | (simp only [std]; omega) | grind); (first | rfl | exact (Row.eq _).trans rfl)) | (refine fill_init ?_; (first | rfl | exact (Row.eq _).trans rfl)) | (show (_ : St) = _; rfl) | grind [take_get, snocI, snocS, rowSnoc]))
abbrev a3_c_iShape (c : Core) := (↑(List.length (List.map intC (Core.params c))) : Int)
abbrev a4_c_iShape (c : Core) := (↑(List.length (List.map coreC (Core.kids c))) : Int)
abbrev a7_c_iShape (c : Core) := (decide ((a3_c_iShape c) = 0) = false → ObsEq [] [] ∧ AV.sv (lb false) = AV.sv (lb (shI c)))
abbrev a1_c_iShape (c : Core) := (decide (Core.kind c = 8) = false → (decide (Core.kind c = 9) = true → (decide (1 ≤ (a3_c_iShape c)) = true → (decide ((a3_c_iShape c) ≤ 60) = true
 → (decide (1 ≤ (a4_c_iShape c)) = true → ObsEq [] [] ∧ AV.sv (lb (decide ((a4_c_iShape c) ≤ 60))) = AV.sv (lb (shI c))) ∧ (decide (1 ≤ (a4_c_iShape c)) = false → ObsEq [] [] ∧
 AV.sv (lb false) = AV.sv (lb (shI c)))) ∧ (decide ((a3_c_iShape c) ≤ 60) = false → false = false ∧ ObsEq [] [] ∧ AV.sv (lb false) = AV.sv (lb (shI c)))) ∧ (decide (1 ≤
 (a3_c_iShape c)) = false → false = false ∧ false = false ∧ ObsEq [] [] ∧ AV.sv (lb false) = AV.sv (lb (shI c)))) ∧ (decide (Core.kind c = 9) = false → (decide (Core.kind c = 10) =
 true → (decide ((a3_c_iShape c) = 0) = true → ObsEq [] [] ∧ AV.sv (lb (decide ((a4_c_iShape c) = 1))) = AV.sv (lb (shI c))) ∧ (a7_c_iShape c)) ∧ (decide (Core.kind c = 10) = false
 → (decide (Core.kind c = 11) = true → (decide ((a3_c_iShape c) = 1) = true → ObsEq [] [] ∧ AV.sv (lb (decide ((a4_c_iShape c) = 1))) = AV.sv (lb (shI c))) ∧ (decide ((a3_c_iShape
 c) = 1) = false → ObsEq [] [] ∧ AV.sv (lb false) = AV.sv (lb (shI c)))) ∧ (decide (Core.kind c = 11) = false → ObsEq [] [] ∧ AV.sv (lb false) = AV.sv (lb (shI c))))))
abbrev a2_c_iShape (c : Core) := (decide (Core.kind c = 3) = true → (decide ((a3_c_iShape c) = 0) = true → (decide ((a4_c_iShape c) = 0) = true → (decide (0 ≤ Core.number c) = true
 → P_c_iPrimitiveNames ∧ (14 ≤ 9223372036854775807 → ObsEq [] [] ∧ AV.sv (lb (decide (Core.number c < 14))) = AV.sv (lb (shI c)))) ∧ (decide (0 ≤ Core.number c) = false → ObsEq []
 [] ∧ AV.sv (lb false) = AV.sv (lb (shI c)))) ∧ (decide ((a4_c_iShape c) = 0) = false → false = false ∧ ObsEq [] [] ∧ AV.sv (lb false) = AV.sv (lb (shI c)))) ∧ (decide
 ((a3_c_iShape c) = 0) = false → false = false ∧ false = false ∧ ObsEq [] [] ∧ AV.sv (lb false) = AV.sv (lb (shI c))))
abbrev a5_c_iShape (c : Core) := (decide (Core.kind c = 1) = true → (decide ((a3_c_iShape c) = 0) = true → (decide ((a4_c_iShape c) = 0) = true → P_c_iIsDatum (Core.datum c) ∧
 ObsEq [] [] ∧ AV.sv (lb (isDat (Core.datum c))) = AV.sv (lb (shI c))) ∧ (decide ((a4_c_iShape c) = 0) = false → ObsEq [] [] ∧ AV.sv (lb false) = AV.sv (lb (shI c)))) ∧ (decide
 ((a3_c_iShape c) = 0) = false → false = false ∧ ObsEq [] [] ∧ AV.sv (lb false) = AV.sv (lb (shI c))))
abbrev a6_c_iShape (c : Core) := (decide (Core.kind c = 6) = true → (decide ((a3_c_iShape c) = 0) = true → (decide (1 ≤ (a4_c_iShape c)) = true → ObsEq [] [] ∧ AV.sv (lb (decide
 ((a4_c_iShape c) ≤ 9))) = AV.sv (lb (shI c))) ∧ (decide (1 ≤ (a4_c_iShape c)) = false → ObsEq [] [] ∧ AV.sv (lb false) = AV.sv (lb (shI c)))) ∧ (decide ((a3_c_iShape c) = 0) =
 false → false = false ∧ ObsEq [] [] ∧ AV.sv (lb false) = AV.sv (lb (shI c))))
abbrev a8_c_iShape (c : Core) := (decide (Core.kind c = 5) = true → (decide ((a3_c_iShape c) ≤ 8) = true → ObsEq [] [] ∧ AV.sv (lb (decide ((a4_c_iShape c) = 1))) = AV.sv (lb (shI
 c))) ∧ (decide ((a3_c_iShape c) ≤ 8) = false → ObsEq [] [] ∧ AV.sv (lb false) = AV.sv (lb (shI c))))
abbrev a9_c_iShape  := [Orc.draw [], Orc.br [Orc.br [Orc.br [Orc.call [] [Ob.arr true 1 (List.map strC primNames)] (AV.sv (SV.one (AC.ref 0))), Orc.fin []] [Orc.fin []]] [Orc.bool
 false, Orc.fin []]] [Orc.bool false, Orc.bool false, Orc.fin []]]
abbrev a18_c_iShape  := [Orc.br [Orc.br [Orc.fin []] [Orc.fin []]] [Orc.bool false, Orc.fin []]]
abbrev a10_c_iShape  := [Orc.br [Orc.br a18_c_iShape [Orc.bool false, Orc.bool false, Orc.fin []]] [Orc.br [Orc.br [Orc.fin []] [Orc.fin []]] [Orc.br [Orc.br [Orc.fin []] [Orc.fin
 []]] [Orc.fin []]]]]
abbrev a11_c_iShape (c : Core) := (decide (Core.kind c = 2) = true → (decide ((a3_c_iShape c) = 0) = true → ObsEq [] [] ∧ AV.sv (lb (decide ((a4_c_iShape c) = 0))) = AV.sv (lb (shI
 c))) ∧ (a7_c_iShape c))
abbrev a12_c_iShape (c : Core) := (decide (Core.kind c = 4) = true → (decide ((a3_c_iShape c) = 0) = true → ObsEq [] [] ∧ AV.sv (lb (decide ((a4_c_iShape c) = 1))) = AV.sv (lb (shI
 c))) ∧ (a7_c_iShape c))
abbrev a13_c_iShape (c : Core) := (decide (Core.kind c = 7) = true → (decide ((a3_c_iShape c) = 0) = true → ObsEq [] [] ∧ AV.sv (lb (decide ((a4_c_iShape c) = 3))) = AV.sv (lb (shI
 c))) ∧ (a7_c_iShape c))
abbrev a14_c_iShape (c : Core) := [Orc.br [Orc.br [Orc.call [Mode.rd] [] (AV.sv (lb (isDat (Core.datum c)))), Orc.fin []] [Orc.fin []]] [Orc.bool false, Orc.fin []]]
abbrev a15_c_iShape (c : Core) := (decide ((a3_c_iShape c) ≠ 0) = true → true = true ∧ true = true ∧ ObsEq [] [] ∧ AV.sv (lb false) = AV.sv (lb (shI c)))
abbrev a16_c_iShape (c : Core) := (decide ((a4_c_iShape c) < 2) = true → true = true ∧ ObsEq [] [] ∧ AV.sv (lb false) = AV.sv (lb (shI c)))
abbrev a17_c_iShape (c : Core) := (decide (60 < (a4_c_iShape c)) = true → ObsEq [] [] ∧ AV.sv (lb false) = AV.sv (lb (shI c)))
abbrev a19_c_iShape  := (Ghost.sel [] [133, 134, 135])
theorem run_c_iShape (c : Core) : aexec Try.prog (Option.getD (Func.body Try.f244) Code.skip) (entry [] [coreA c] 175) [Orc.draw [], Orc.br [Orc.call [Mode.rd, Mode.rd] [] (AV.sv
 (lb (decide (Core.datum c = Datum.mk 0 0 (ByteArray.mk #[]) [])))), Orc.br [Orc.fin []] [Orc.br [Orc.br [Orc.br [Orc.br [Orc.fin []] [Orc.br (a14_c_iShape c) [Orc.br [Orc.br
 [Orc.fin []] [Orc.fin []]] [Orc.br a9_c_iShape [Orc.br [Orc.br [Orc.fin []] [Orc.fin []]] [Orc.br [Orc.br [Orc.fin []] [Orc.fin []]] [Orc.br a18_c_iShape [Orc.br [Orc.br [Orc.fin
 []] [Orc.fin []]] [Orc.br [Orc.br [Orc.bool true, Orc.bool true, Orc.fin []] [Orc.br [Orc.bool true, Orc.fin []] [Orc.br [Orc.fin []] [Orc.ghost a19_c_iShape, Orc.loop
 (List.length (Core.kids c) - 0) (Lc_iShapeLa c 0) (Ic_iShapeLa c) [((List.all (Core.kids c) fun x => !decide (Core.kind x = 8)) = true, AEx.exit 1, W0c_iShapeLa c, [Orc.fin []]),
 ((List.all (Core.kids c) fun x => !decide (Core.kind x = 8)) = false, AEx.ret, W1c_iShapeLa c (lb false), [Orc.fin []])]]]]] a10_c_iShape]]]]]]]]] [Orc.bool false, Orc.br
 (a14_c_iShape c) [Orc.br [Orc.br [Orc.fin []] [Orc.fin []]] [Orc.br a9_c_iShape [Orc.br [Orc.br [Orc.fin []] [Orc.fin []]] [Orc.br [Orc.br [Orc.fin []] [Orc.fin []]] [Orc.br
 a18_c_iShape [Orc.br [Orc.br [Orc.fin []] [Orc.fin []]] [Orc.br [Orc.br [Orc.bool true, Orc.bool true, Orc.fin []] [Orc.br [Orc.bool true, Orc.fin []] [Orc.br [Orc.fin []]
 [Orc.ghost a19_c_iShape, Orc.loop (List.length (Core.kids c) - 0) (Lc_iShapeLa c 0) (Ic_iShapeLa c) [((List.all (Core.kids c) fun x => !decide (Core.kind x = 8)) = true, AEx.exit
 1, W0c_iShapeLa c, [Orc.fin []]), ((List.all (Core.kids c) fun x => !decide (Core.kind x = 8)) = false, AEx.ret, W1c_iShapeLa c (lb false), [Orc.fin []])]]]]]
 a10_c_iShape]]]]]]]]] [Orc.bool false, Orc.bool false, Orc.br (a14_c_iShape c) [Orc.br [Orc.br [Orc.fin []] [Orc.fin []]] [Orc.br a9_c_iShape [Orc.br [Orc.br [Orc.fin []] [Orc.fin
 []]] [Orc.br [Orc.br [Orc.fin []] [Orc.fin []]] [Orc.br a18_c_iShape [Orc.br [Orc.br [Orc.fin []] [Orc.fin []]] [Orc.br [Orc.br [Orc.bool true, Orc.bool true, Orc.fin []] [Orc.br
 [Orc.bool true, Orc.fin []] [Orc.br [Orc.fin []] [Orc.ghost a19_c_iShape, Orc.loop (List.length (Core.kids c) - 0) (Lc_iShapeLa c 0) (Ic_iShapeLa c) [((List.all (Core.kids c) fun
 x => !decide (Core.kind x = 8)) = true, AEx.exit 1, W0c_iShapeLa c, [Orc.fin []]), ((List.all (Core.kids c) fun x => !decide (Core.kind x = 8)) = false, AEx.ret, W1c_iShapeLa c
 (lb false), [Orc.fin []])]]]]] a10_c_iShape]]]]]]]]] [Orc.bool false, Orc.bool false, Orc.bool false, Orc.br (a14_c_iShape c) [Orc.br [Orc.br [Orc.fin []] [Orc.fin []]] [Orc.br
 a9_c_iShape [Orc.br [Orc.br [Orc.fin []] [Orc.fin []]] [Orc.br [Orc.br [Orc.fin []] [Orc.fin []]] [Orc.br a18_c_iShape [Orc.br [Orc.br [Orc.fin []] [Orc.fin []]] [Orc.br [Orc.br
 [Orc.bool true, Orc.bool true, Orc.fin []] [Orc.br [Orc.bool true, Orc.fin []] [Orc.br [Orc.fin []] [Orc.ghost a19_c_iShape, Orc.loop (List.length (Core.kids c) - 0) (Lc_iShapeLa
 c 0) (Ic_iShapeLa c) [((List.all (Core.kids c) fun x => !decide (Core.kind x = 8)) = true, AEx.exit 1, W0c_iShapeLa c, [Orc.fin []]), ((List.all (Core.kids c) fun x => !decide
 (Core.kind x = 8)) = false, AEx.ret, W1c_iShapeLa c (lb false), [Orc.fin []])]]]]] a10_c_iShape]]]]]]]]]] [Orc.bool false, Orc.br [Orc.br [Orc.br [Orc.br [Orc.fin []] [Orc.br
 (a14_c_iShape c) [Orc.br [Orc.br [Orc.fin []] [Orc.fin []]] [Orc.br a9_c_iShape [Orc.br [Orc.br [Orc.fin []] [Orc.fin []]] [Orc.br [Orc.br [Orc.fin []] [Orc.fin []]] [Orc.br
 a18_c_iShape [Orc.br [Orc.br [Orc.fin []] [Orc.fin []]] [Orc.br [Orc.br [Orc.bool true, Orc.bool true, Orc.fin []] [Orc.br [Orc.bool true, Orc.fin []] [Orc.br [Orc.fin []]
 [Orc.ghost a19_c_iShape, Orc.loop (List.length (Core.kids c) - 0) (Lc_iShapeLa c 0) (Ic_iShapeLa c) [((List.all (Core.kids c) fun x => !decide (Core.kind x = 8)) = true, AEx.exit
 1, W0c_iShapeLa c, [Orc.fin []]), ((List.all (Core.kids c) fun x => !decide (Core.kind x = 8)) = false, AEx.ret, W1c_iShapeLa c (lb false), [Orc.fin []])]]]]]
 a10_c_iShape]]]]]]]]] [Orc.bool false, Orc.br (a14_c_iShape c) [Orc.br [Orc.br [Orc.fin []] [Orc.fin []]] [Orc.br a9_c_iShape [Orc.br [Orc.br [Orc.fin []] [Orc.fin []]] [Orc.br
 [Orc.br [Orc.fin []] [Orc.fin []]] [Orc.br a18_c_iShape [Orc.br [Orc.br [Orc.fin []] [Orc.fin []]] [Orc.br [Orc.br [Orc.bool true, Orc.bool true, Orc.fin []] [Orc.br [Orc.bool
 true, Orc.fin []] [Orc.br [Orc.fin []] [Orc.ghost a19_c_iShape, Orc.loop (List.length (Core.kids c) - 0) (Lc_iShapeLa c 0) (Ic_iShapeLa c) [((List.all (Core.kids c) fun x =>
 !decide (Core.kind x = 8)) = true, AEx.exit 1, W0c_iShapeLa c, [Orc.fin []]), ((List.all (Core.kids c) fun x => !decide (Core.kind x = 8)) = false, AEx.ret, W1c_iShapeLa c (lb
 false), [Orc.fin []])]]]]] a10_c_iShape]]]]]]]]] [Orc.bool false, Orc.bool false, Orc.br (a14_c_iShape c) [Orc.br [Orc.br [Orc.fin []] [Orc.fin []]] [Orc.br a9_c_iShape [Orc.br
 [Orc.br [Orc.fin []] [Orc.fin []]] [Orc.br [Orc.br [Orc.fin []] [Orc.fin []]] [Orc.br a18_c_iShape [Orc.br [Orc.br [Orc.fin []] [Orc.fin []]] [Orc.br [Orc.br [Orc.bool true,
 Orc.bool true, Orc.fin []] [Orc.br [Orc.bool true, Orc.fin []] [Orc.br [Orc.fin []] [Orc.ghost a19_c_iShape, Orc.loop (List.length (Core.kids c) - 0) (Lc_iShapeLa c 0)
 (Ic_iShapeLa c) [((List.all (Core.kids c) fun x => !decide (Core.kind x = 8)) = true, AEx.exit 1, W0c_iShapeLa c, [Orc.fin []]), ((List.all (Core.kids c) fun x => !decide
 (Core.kind x = 8)) = false, AEx.ret, W1c_iShapeLa c (lb false), [Orc.fin []])]]]]] a10_c_iShape]]]]]]]]] [Orc.bool false, Orc.bool false, Orc.bool false, Orc.br (a14_c_iShape c)
 [Orc.br [Orc.br [Orc.fin []] [Orc.fin []]] [Orc.br a9_c_iShape [Orc.br [Orc.br [Orc.fin []] [Orc.fin []]] [Orc.br [Orc.br [Orc.fin []] [Orc.fin []]] [Orc.br a18_c_iShape [Orc.br
 [Orc.br [Orc.fin []] [Orc.fin []]] [Orc.br [Orc.br [Orc.bool true, Orc.bool true, Orc.fin []] [Orc.br [Orc.bool true, Orc.fin []] [Orc.br [Orc.fin []] [Orc.ghost a19_c_iShape,
 Orc.loop (List.length (Core.kids c) - 0) (Lc_iShapeLa c 0) (Ic_iShapeLa c) [((List.all (Core.kids c) fun x => !decide (Core.kind x = 8)) = true, AEx.exit 1, W0c_iShapeLa c,
 [Orc.fin []]), ((List.all (Core.kids c) fun x => !decide (Core.kind x = 8)) = false, AEx.ret, W1c_iShapeLa c (lb false), [Orc.fin []])]]]]] a10_c_iShape]]]]]]]]]] (finK Try.prog
 [ResultVar.tmp 2] [] (AV.sv (lb (shI c)))) = (List.length (List.map intC (Core.params c)) ≤ 9223372036854775807 → List.length (List.map coreC (Core.kids c)) ≤ 9223372036854775807
 → (decide (Core.kind c ≠ 1) = true → P_c_iEqData (Core.datum c) (Datum.mk 0 0 (ByteArray.mk #[]) []) ∧ ((!decide (Core.datum c = Datum.mk 0 0 (ByteArray.mk #[]) [])) = true →
 ObsEq [] [] ∧ AV.sv (lb false) = AV.sv (lb (shI c))) ∧ ((!decide (Core.datum c = Datum.mk 0 0 (ByteArray.mk #[]) [])) = false → (decide (Core.number c ≠ 0) = true → (decide
 (Core.kind c ≠ 2) = true → (decide (Core.kind c ≠ 3) = true → (decide (Core.kind c ≠ 4) = true → ObsEq [] [] ∧ AV.sv (lb false) = AV.sv (lb (shI c))) ∧ (decide (Core.kind c ≠ 4) =
 false → (a5_c_iShape c) ∧ (decide (Core.kind c = 1) = false → (a11_c_iShape c) ∧ (decide (Core.kind c = 2) = false → (a2_c_iShape c) ∧ (decide (Core.kind c = 3) = false →
 (a12_c_iShape c) ∧ (decide (Core.kind c = 4) = false → (a8_c_iShape c) ∧ (decide (Core.kind c = 5) = false → (a6_c_iShape c) ∧ (decide (Core.kind c = 6) = false → (a13_c_iShape c)
 ∧ (decide (Core.kind c = 7) = false → (decide (Core.kind c = 8) = true → (a15_c_iShape c) ∧ (decide ((a3_c_iShape c) ≠ 0) = false → (a16_c_iShape c) ∧ (decide ((a4_c_iShape c) <
 2) = false → (a17_c_iShape c) ∧ (decide (60 < (a4_c_iShape c)) = false → List.length (List.map coreC (Core.kids c)) ≤ 9223372036854775807 → Tc_iShapeLa c (li 0) = Lc_iShapeLa c 0
 ∧ Ic_iShapeLa c (List.length (Core.kids c) - 0) (Lc_iShapeLa c 0) ∧ LoopSem Try.prog (loopAt Try.f244 0) (Ic_iShapeLa c) (Yc_iShapeLa c) ∧ ((List.all (Core.kids c) fun x =>
 !decide (Core.kind x = 8)) = true → ObsEq [] [] ∧ AV.sv (lb true) = AV.sv (lb (shI c))) ∧ ((List.all (Core.kids c) fun x => !decide (Core.kind x = 8)) = false → ObsEq [] [] ∧
 AV.sv (lb false) = AV.sv (lb (shI c))) ∧ True)))) ∧ (a1_c_iShape c)))))))))) ∧ (decide (Core.kind c ≠ 3) = false → false = false ∧ (a5_c_iShape c) ∧ (decide (Core.kind c = 1) =
 false → (a11_c_iShape c) ∧ (decide (Core.kind c = 2) = false → (a2_c_iShape c) ∧ (decide (Core.kind c = 3) = false → (a12_c_iShape c) ∧ (decide (Core.kind c = 4) = false →
 (a8_c_iShape c) ∧ (decide (Core.kind c = 5) = false → (a6_c_iShape c) ∧ (decide (Core.kind c = 6) = false → (a13_c_iShape c) ∧ (decide (Core.kind c = 7) = false → (decide
 (Core.kind c = 8) = true → (a15_c_iShape c) ∧ (decide ((a3_c_iShape c) ≠ 0) = false → (a16_c_iShape c) ∧ (decide ((a4_c_iShape c) < 2) = false → (a17_c_iShape c) ∧ (decide (60 <
 (a4_c_iShape c)) = false → List.length (List.map coreC (Core.kids c)) ≤ 9223372036854775807 → Tc_iShapeLa c (li 0) = Lc_iShapeLa c 0 ∧ Ic_iShapeLa c (List.length (Core.kids c) -
 0) (Lc_iShapeLa c 0) ∧ LoopSem Try.prog (loopAt Try.f244 0) (Ic_iShapeLa c) (Yc_iShapeLa c) ∧ ((List.all (Core.kids c) fun x => !decide (Core.kind x = 8)) = true → ObsEq [] [] ∧
 AV.sv (lb true) = AV.sv (lb (shI c))) ∧ ((List.all (Core.kids c) fun x => !decide (Core.kind x = 8)) = false → ObsEq [] [] ∧ AV.sv (lb false) = AV.sv (lb (shI c))) ∧ True)))) ∧
 (a1_c_iShape c)))))))))) ∧ (decide (Core.kind c ≠ 2) = false → false = false ∧ false = false ∧ (a5_c_iShape c) ∧ (decide (Core.kind c = 1) = false → (a11_c_iShape c) ∧ (decide
 (Core.kind c = 2) = false → (a2_c_iShape c) ∧ (decide (Core.kind c = 3) = false → (a12_c_iShape c) ∧ (decide (Core.kind c = 4) = false → (a8_c_iShape c) ∧ (decide (Core.kind c =
 5) = false → (a6_c_iShape c) ∧ (decide (Core.kind c = 6) = false → (a13_c_iShape c) ∧ (decide (Core.kind c = 7) = false → (decide (Core.kind c = 8) = true → (a15_c_iShape c) ∧
 (decide ((a3_c_iShape c) ≠ 0) = false → (a16_c_iShape c) ∧ (decide ((a4_c_iShape c) < 2) = false → (a17_c_iShape c) ∧ (decide (60 < (a4_c_iShape c)) = false → List.length
 (List.map coreC (Core.kids c)) ≤ 9223372036854775807 → Tc_iShapeLa c (li 0) = Lc_iShapeLa c 0 ∧ Ic_iShapeLa c (List.length (Core.kids c) - 0) (Lc_iShapeLa c 0) ∧ LoopSem Try.prog
 (loopAt Try.f244 0) (Ic_iShapeLa c) (Yc_iShapeLa c) ∧ ((List.all (Core.kids c) fun x => !decide (Core.kind x = 8)) = true → ObsEq [] [] ∧ AV.sv (lb true) = AV.sv (lb (shI c))) ∧
 ((List.all (Core.kids c) fun x => !decide (Core.kind x = 8)) = false → ObsEq [] [] ∧ AV.sv (lb false) = AV.sv (lb (shI c))) ∧ True)))) ∧ (a1_c_iShape c)))))))))) ∧ (decide
 (Core.number c ≠ 0) = false → false = false ∧ false = false ∧ false = false ∧ (a5_c_iShape c) ∧ (decide (Core.kind c = 1) = false → (a11_c_iShape c) ∧ (decide (Core.kind c = 2) =
 false → (a2_c_iShape c) ∧ (decide (Core.kind c = 3) = false → (a12_c_iShape c) ∧ (decide (Core.kind c = 4) = false → (a8_c_iShape c) ∧ (decide (Core.kind c = 5) = false →
 (a6_c_iShape c) ∧ (decide (Core.kind c = 6) = false → (a13_c_iShape c) ∧ (decide (Core.kind c = 7) = false → (decide (Core.kind c = 8) = true → (a15_c_iShape c) ∧ (decide
 ((a3_c_iShape c) ≠ 0) = false → (a16_c_iShape c) ∧ (decide ((a4_c_iShape c) < 2) = false → (a17_c_iShape c) ∧ (decide (60 < (a4_c_iShape c)) = false → List.length (List.map coreC
 (Core.kids c)) ≤ 9223372036854775807 → Tc_iShapeLa c (li 0) = Lc_iShapeLa c 0 ∧ Ic_iShapeLa c (List.length (Core.kids c) - 0) (Lc_iShapeLa c 0) ∧ LoopSem Try.prog (loopAt Try.f244
 0) (Ic_iShapeLa c) (Yc_iShapeLa c) ∧ ((List.all (Core.kids c) fun x => !decide (Core.kind x = 8)) = true → ObsEq [] [] ∧ AV.sv (lb true) = AV.sv (lb (shI c))) ∧ ((List.all
 (Core.kids c) fun x => !decide (Core.kind x = 8)) = false → ObsEq [] [] ∧ AV.sv (lb false) = AV.sv (lb (shI c))) ∧ True)))) ∧ (a1_c_iShape c))))))))))) ∧ (decide (Core.kind c ≠ 1)
 = false → false = false ∧ (decide (Core.number c ≠ 0) = true → (decide (Core.kind c ≠ 2) = true → (decide (Core.kind c ≠ 3) = true → (decide (Core.kind c ≠ 4) = true → ObsEq [] []
 ∧ AV.sv (lb false) = AV.sv (lb (shI c))) ∧ (decide (Core.kind c ≠ 4) = false → (a5_c_iShape c) ∧ (decide (Core.kind c = 1) = false → (a11_c_iShape c) ∧ (decide (Core.kind c = 2) =
 false → (a2_c_iShape c) ∧ (decide (Core.kind c = 3) = false → (a12_c_iShape c) ∧ (decide (Core.kind c = 4) = false → (a8_c_iShape c) ∧ (decide (Core.kind c = 5) = false →
 (a6_c_iShape c) ∧ (decide (Core.kind c = 6) = false → (a13_c_iShape c) ∧ (decide (Core.kind c = 7) = false → (decide (Core.kind c = 8) = true → (a15_c_iShape c) ∧ (decide
 ((a3_c_iShape c) ≠ 0) = false → (a16_c_iShape c) ∧ (decide ((a4_c_iShape c) < 2) = false → (a17_c_iShape c) ∧ (decide (60 < (a4_c_iShape c)) = false → List.length (List.map coreC
 (Core.kids c)) ≤ 9223372036854775807 → Tc_iShapeLa c (li 0) = Lc_iShapeLa c 0 ∧ Ic_iShapeLa c (List.length (Core.kids c) - 0) (Lc_iShapeLa c 0) ∧ LoopSem Try.prog (loopAt Try.f244
 0) (Ic_iShapeLa c) (Yc_iShapeLa c) ∧ ((List.all (Core.kids c) fun x => !decide (Core.kind x = 8)) = true → ObsEq [] [] ∧ AV.sv (lb true) = AV.sv (lb (shI c))) ∧ ((List.all
 (Core.kids c) fun x => !decide (Core.kind x = 8)) = false → ObsEq [] [] ∧ AV.sv (lb false) = AV.sv (lb (shI c))) ∧ True)))) ∧ (a1_c_iShape c)))))))))) ∧ (decide (Core.kind c ≠ 3)
 = false → false = false ∧ (a5_c_iShape c) ∧ (decide (Core.kind c = 1) = false → (a11_c_iShape c) ∧ (decide (Core.kind c = 2) = false → (a2_c_iShape c) ∧ (decide (Core.kind c = 3)
 = false → (a12_c_iShape c) ∧ (decide (Core.kind c = 4) = false → (a8_c_iShape c) ∧ (decide (Core.kind c = 5) = false → (a6_c_iShape c) ∧ (decide (Core.kind c = 6) = false →
 (a13_c_iShape c) ∧ (decide (Core.kind c = 7) = false → (decide (Core.kind c = 8) = true → (a15_c_iShape c) ∧ (decide ((a3_c_iShape c) ≠ 0) = false → (a16_c_iShape c) ∧ (decide
 ((a4_c_iShape c) < 2) = false → (a17_c_iShape c) ∧ (decide (60 < (a4_c_iShape c)) = false → List.length (List.map coreC (Core.kids c)) ≤ 9223372036854775807 → Tc_iShapeLa c (li 0)
 = Lc_iShapeLa c 0 ∧ Ic_iShapeLa c (List.length (Core.kids c) - 0) (Lc_iShapeLa c 0) ∧ LoopSem Try.prog (loopAt Try.f244 0) (Ic_iShapeLa c) (Yc_iShapeLa c) ∧ ((List.all (Core.kids
 c) fun x => !decide (Core.kind x = 8)) = true → ObsEq [] [] ∧ AV.sv (lb true) = AV.sv (lb (shI c))) ∧ ((List.all (Core.kids c) fun x => !decide (Core.kind x = 8)) = false → ObsEq
 [] [] ∧ AV.sv (lb false) = AV.sv (lb (shI c))) ∧ True)))) ∧ (a1_c_iShape c)))))))))) ∧ (decide (Core.kind c ≠ 2) = false → false = false ∧ false = false ∧ (a5_c_iShape c) ∧
 (decide (Core.kind c = 1) = false → (a11_c_iShape c) ∧ (decide (Core.kind c = 2) = false → (a2_c_iShape c) ∧ (decide (Core.kind c = 3) = false → (a12_c_iShape c) ∧ (decide
 (Core.kind c = 4) = false → (a8_c_iShape c) ∧ (decide (Core.kind c = 5) = false → (a6_c_iShape c) ∧ (decide (Core.kind c = 6) = false → (a13_c_iShape c) ∧ (decide (Core.kind c =
 7) = false → (decide (Core.kind c = 8) = true → (a15_c_iShape c) ∧ (decide ((a3_c_iShape c) ≠ 0) = false → (a16_c_iShape c) ∧ (decide ((a4_c_iShape c) < 2) = false → (a17_c_iShape
 c) ∧ (decide (60 < (a4_c_iShape c)) = false → List.length (List.map coreC (Core.kids c)) ≤ 9223372036854775807 → Tc_iShapeLa c (li 0) = Lc_iShapeLa c 0 ∧ Ic_iShapeLa c
 (List.length (Core.kids c) - 0) (Lc_iShapeLa c 0) ∧ LoopSem Try.prog (loopAt Try.f244 0) (Ic_iShapeLa c) (Yc_iShapeLa c) ∧ ((List.all (Core.kids c) fun x => !decide (Core.kind x =
 8)) = true → ObsEq [] [] ∧ AV.sv (lb true) = AV.sv (lb (shI c))) ∧ ((List.all (Core.kids c) fun x => !decide (Core.kind x = 8)) = false → ObsEq [] [] ∧ AV.sv (lb false) = AV.sv
 (lb (shI c))) ∧ True)))) ∧ (a1_c_iShape c)))))))))) ∧ (decide (Core.number c ≠ 0) = false → false = false ∧ false = false ∧ false = false ∧ (a5_c_iShape c) ∧ (decide (Core.kind c
 = 1) = false → (a11_c_iShape c) ∧ (decide (Core.kind c = 2) = false → (a2_c_iShape c) ∧ (decide (Core.kind c = 3) = false → (a12_c_iShape c) ∧ (decide (Core.kind c = 4) = false →
 (a8_c_iShape c) ∧ (decide (Core.kind c = 5) = false → (a6_c_iShape c) ∧ (decide (Core.kind c = 6) = false → (a13_c_iShape c) ∧ (decide (Core.kind c = 7) = false → (decide
 (Core.kind c = 8) = true → (a15_c_iShape c) ∧ (decide ((a3_c_iShape c) ≠ 0) = false → (a16_c_iShape c) ∧ (decide ((a4_c_iShape c) < 2) = false → (a17_c_iShape c) ∧ (decide (60 <
 (a4_c_iShape c)) = false → List.length (List.map coreC (Core.kids c)) ≤ 9223372036854775807 → Tc_iShapeLa c (li 0) = Lc_iShapeLa c 0 ∧ Ic_iShapeLa c (List.length (Core.kids c) -
 0) (Lc_iShapeLa c 0) ∧ LoopSem Try.prog (loopAt Try.f244 0) (Ic_iShapeLa c) (Yc_iShapeLa c) ∧ ((List.all (Core.kids c) fun x => !decide (Core.kind x = 8)) = true → ObsEq [] [] ∧
 AV.sv (lb true) = AV.sv (lb (shI c))) ∧ ((List.all (Core.kids c) fun x => !decide (Core.kind x = 8)) = false → ObsEq [] [] ∧ AV.sv (lb false) = AV.sv (lb (shI c))) ∧ True)))) ∧
 (a1_c_iShape c))))))))))) := by kernel_rfl
theorem c_iShape (c : Core)  : P_c_iShape c := by
  refine CallOK.ofRun wide (run_c_iShape c) Try.call244 Try.func244 rfl rfl rfl ?_
  try delta a3_c_iShape a4_c_iShape a7_c_iShape a1_c_iShape a2_c_iShape a5_c_iShape a6_c_iShape a8_c_iShape a9_c_iShape a18_c_iShape a10_c_iShape a11_c_iShape a12_c_iShape a13_c_iShape a14_c_iShape a15_c_iShape a16_c_iShape a17_c_iShape a19_c_iShape
  have e : primNames.length = 14 := rfl
  with_reducible repeat' (first | apply And.intro | exact flatI | exact flatS | exact rowLens | (intro; skip) | apply obsN | apply obsC | apply obA | apply obM | apply obB | apply svA | apply tupA | apply lcA | apply lcS | apply svC | apply liC | apply lbC | apply lsC | apply vIc | apply vBc | apply vSc | apply vLc | apply mapC | apply mIc | apply mOc | apply mSc | apply mLc | apply Hc_iShapeLa | apply Ec_iShapeLa | apply Sc_iShapeLa | apply EW1c_iShapeLa | apply c_iEqData | apply c_iIsDatum | apply c_iPrimitiveNames)
  all_goals (try simp only [std] at *)
  all_goals (try (first | with_reducible apply c_iEqData | with_reducible apply c_iIsDatum | with_reducible apply c_iPrimitiveNames | (simp only [← List.map_append]; first | with_reducible apply c_iEqData | with_reducible apply c_iIsDatum | with_reducible apply c_iPrimitiveNames)))
  all_goals (try (first | with_reducible rfl | omega | assumption | (refine (decide_eq_true ?_).symm; assumption) | (refine (decide_eq_false ?_).symm; assumption) | (refine rowGet ?_; (first | omega | (simp only [std]; omega) | grind)) | (refine getC ?_ rfl; (first | omega | (simp only [std]; omega) | grind)) | exact look_mI | exact look_mO | exact look_mO1 | exact look_mS | exact look_mL | exact upd_mI | exact upd_mO | exact del_mO | exact upd_mS | exact take_mL | (refine upd_mL ?_; grind) | (refine fill_step ?_ ?_; (first | omega | (simp only [std]; omega) | grind); (first | rfl | exact (Row.eq _).trans rfl)) | (refine fill_init ?_; (first | rfl | exact (Row.eq _).trans rfl)) | (show (_ : St) = _; rfl) | grind [shC, shI, sqC, snocI, snocS, rowSnoc]))
abbrev P_c_iMeaC (c : Core) (deep : Int) (q : Int) : Prop := CallOK Try.prog 168 [.box [vI q]] [coreA c, li deep, .one (.ptr 0 0)] [.box [vI (meaC c deep q).2]] (.sv (lb (meaC c deep q).1))
def Tc_iMeaC_sLa (c : Core) (deep : Int) (q : Int) (x0 : SV) (x1 : AC) : St := St.mk (regsOf 41 [(1, AV.sv (li deep)), (2, AV.sv (SV.one (AC.ptr 0 0))), (28, AV.sv (ll (List.map
 coreC (Core.kids c)))), (29, AV.sv (li (↑(List.length (List.map coreC (Core.kids c))) : Int))), (30, AV.sv x0)]) [Ob.box [x1]] 1 
def Lc_iMeaC_sLa (c : Core) (deep : Int) (q : Int) (k : Nat) : St := Tc_iMeaC_sLa c deep q (li (↑k : Int)) (vI (Prod.snd (scan (fun x m => meaC x (deep + 1) m) (List.take k
 (Core.kids c)) (q + 1)))) 
def Ic_iMeaC_sLa (c : Core) (deep : Int) (q : Int) : Nat → St → Prop := Head (Lc_iMeaC_sLa c deep q) (fun k => k ≤ List.length (Core.kids c) ∧ List.length (Core.kids c) ≤
 9223372036854775807 ∧ deep ≤ 150 ∧ Prod.fst (scan (fun x m => meaC x (deep + 1) m) (List.take k (Core.kids c)) (q + 1)) = true ∧ q ≤ Prod.snd (scan (fun x m => meaC x (deep + 1)
 m) (List.take k (Core.kids c)) (q + 1)) ∧ Prod.snd (scan (fun x m => meaC x (deep + 1) m) (List.take k (Core.kids c)) (q + 1)) ≤ 3000) fun k => List.length (Core.kids c) - k 
def W0c_iMeaC_sLa (c : Core) (deep : Int) (q : Int) (x0 : AC) : St := St.mk (regsOf 41 []) [Ob.box [x0]] 1 
def W1c_iMeaC_sLa (c : Core) (deep : Int) (q : Int) (x0 : SV) (x1 : AC) : St := St.mk (regsOf 41 [(6, AV.sv x0)]) [Ob.box [x1]] 1 
def Yc_iMeaC_sLa (c : Core) (deep : Int) (q : Int) : List (Prop × AEx × St) := [(Prod.fst (scan (fun x m => meaC x (deep + 1) m) (Core.kids c) (q + 1)) = true, AEx.exit 0,
 W0c_iMeaC_sLa c deep q (vI (Prod.snd (scan (fun x m => meaC x (deep + 1) m) (Core.kids c) (q + 1))))), (Prod.fst (scan (fun x m => meaC x (deep + 1) m) (Core.kids c) (q + 1)) =
 false, AEx.ret, W1c_iMeaC_sLa c deep q (lb false) (vI (Prod.snd (scan (fun x m => meaC x (deep + 1) m) (Core.kids c) (q + 1)))))]
theorem Hc_iMeaC_sLa {c : Core} {deep : Int} {q : Int} {k : Nat} {m : Nat} (h : (fun k => k ≤ List.length (Core.kids c) ∧ List.length (Core.kids c) ≤ 9223372036854775807 ∧ deep ≤
 150 ∧ Prod.fst (scan (fun x m => meaC x (deep + 1) m) (List.take k (Core.kids c)) (q + 1)) = true ∧ q ≤ Prod.snd (scan (fun x m => meaC x (deep + 1) m) (List.take k (Core.kids c))
 (q + 1)) ∧ Prod.snd (scan (fun x m => meaC x (deep + 1) m) (List.take k (Core.kids c)) (q + 1)) ≤ 3000) k) (hm : (fun k => List.length (Core.kids c) - k) k = m) : Ic_iMeaC_sLa c
 deep q m (Lc_iMeaC_sLa c deep q k) := hm ▸ Head.mk h
theorem Ec_iMeaC_sLa {c : Core} {deep : Int} {q : Int} {k : Nat} {x0 : SV} {x1 : AC} (h0 : x0 = (li (↑k : Int))) (h1 : x1 = (vI (Prod.snd (scan (fun x m => meaC x (deep + 1) m)
 (List.take k (Core.kids c)) (q + 1))))) : Tc_iMeaC_sLa c deep q x0 x1 = Lc_iMeaC_sLa c deep q k := by
  rw [h0, h1]
  rfl
theorem EW0c_iMeaC_sLa {c : Core} {deep : Int} {q : Int} {x0 y0 : AC} (h0 : x0 = y0) : W0c_iMeaC_sLa c deep q x0 = W0c_iMeaC_sLa c deep q y0 := by rw [h0]
theorem EW1c_iMeaC_sLa {c : Core} {deep : Int} {q : Int} {x0 y0 : SV} {x1 y1 : AC} (h0 : x0 = y0) (h1 : x1 = y1) : W1c_iMeaC_sLa c deep q x0 x1 = W1c_iMeaC_sLa c deep q y0 y1 := by
 rw [h0, h1]
theorem run_c_iMeaC_sLa (c : Core) (deep : Int) (q : Int) (k : Nat) : aexec Try.prog (loopAt Try.f168 0) (Lc_iMeaC_sLa c deep q k) [Orc.br [Orc.cells (coreF (List.getD (Core.kids
 c) k default)), Orc.call [Mode.rd, Mode.rd, Mode.ptr] [Ob.box [vI (Prod.snd (meaC (List.getD (Core.kids c) k default) (deep + 1) (Prod.snd (scan (fun x m => meaC x (deep + 1) m)
 (List.take k (Core.kids c)) (q + 1)))))]] (AV.sv (lb (Prod.fst (meaC (List.getD (Core.kids c) k default) (deep + 1) (Prod.snd (scan (fun x m => meaC x (deep + 1) m) (List.take k
 (Core.kids c)) (q + 1))))))), Orc.br [Orc.ghost (Ghost.sel [0] [6]), Orc.out 1] [Orc.ghost (Ghost.sel [0] [1, 2, 28, 29, 30]), Orc.goto (List.length (Core.kids c) - (k + 1))
 (Lc_iMeaC_sLa c deep q (k + 1))]] [Orc.ghost (Ghost.sel [0] []), Orc.out 0]] (loopK (Ic_iMeaC_sLa c deep q) (Yc_iMeaC_sLa c deep q) (List.length (Core.kids c) - k)) = ((decide
 ((↑k : Int) < (↑(List.length (List.map coreC (Core.kids c))) : Int)) = true → (0 ≤ (↑k : Int) ∧ (List.map coreC (Core.kids c))[Int.toNat (↑k : Int)]? = some (coreF (List.getD
 (Core.kids c) k default))) ∧ rng IntKind.i64 (deep + 1) ∧ P_c_iMeaC (List.getD (Core.kids c) k default) (deep + 1) (Prod.snd (scan (fun x m => meaC x (deep + 1) m) (List.take k
 (Core.kids c)) (q + 1))) ∧ ((!Prod.fst (meaC (List.getD (Core.kids c) k default) (deep + 1) (Prod.snd (scan (fun x m => meaC x (deep + 1) m) (List.take k (Core.kids c)) (q +
 1))))) = true → Prod.fst (scan (fun x m => meaC x (deep + 1) m) (Core.kids c) (q + 1)) = false ∧ W1c_iMeaC_sLa c deep q (lb false) (vI (Prod.snd (meaC (List.getD (Core.kids c) k
 default) (deep + 1) (Prod.snd (scan (fun x m => meaC x (deep + 1) m) (List.take k (Core.kids c)) (q + 1)))))) = W1c_iMeaC_sLa c deep q (lb false) (vI (Prod.snd (scan (fun x m =>
 meaC x (deep + 1) m) (Core.kids c) (q + 1))))) ∧ ((!Prod.fst (meaC (List.getD (Core.kids c) k default) (deep + 1) (Prod.snd (scan (fun x m => meaC x (deep + 1) m) (List.take k
 (Core.kids c)) (q + 1))))) = false → rng IntKind.i64 ((↑k : Int) + 1) ∧ List.length (Core.kids c) - (k + 1) < List.length (Core.kids c) - k ∧ Tc_iMeaC_sLa c deep q (li ((↑k : Int)
 + 1)) (vI (Prod.snd (meaC (List.getD (Core.kids c) k default) (deep + 1) (Prod.snd (scan (fun x m => meaC x (deep + 1) m) (List.take k (Core.kids c)) (q + 1)))))) = Lc_iMeaC_sLa c
 deep q (k + 1) ∧ Ic_iMeaC_sLa c deep q (List.length (Core.kids c) - (k + 1)) (Lc_iMeaC_sLa c deep q (k + 1)))) ∧ (decide ((↑k : Int) < (↑(List.length (List.map coreC (Core.kids
 c))) : Int)) = false → Prod.fst (scan (fun x m => meaC x (deep + 1) m) (Core.kids c) (q + 1)) = true ∧ W0c_iMeaC_sLa c deep q (vI (Prod.snd (scan (fun x m => meaC x (deep + 1) m)
 (List.take k (Core.kids c)) (q + 1)))) = W0c_iMeaC_sLa c deep q (vI (Prod.snd (scan (fun x m => meaC x (deep + 1) m) (Core.kids c) (q + 1)))))) := by kernel_rfl
theorem Sc_iMeaC_sLa (c : Core) (deep : Int) (q : Int) (h : 0 ≤ deep ∧ deep ≤ 151 ∧ 0 ≤ q ∧ q ≤ 3000) (ih : ∀ (z : Core), z ∈ Core.kids c → ∀ (deep q : Int), 0 ≤ deep ∧ deep ≤ 151
 ∧ 0 ≤ q ∧ q ≤ 3000 → P_c_iMeaC z deep q)  : LoopSem Try.prog (loopAt Try.f168 0) (Ic_iMeaC_sLa c deep q) (Yc_iMeaC_sLa c deep q) := by
  refine LoopSem.ofHead wide fun k h => ⟨_, _, run_c_iMeaC_sLa c deep q k, ?_⟩
  have g1 := fun x m => meaC_of x (deep + 1) m
  with_reducible repeat' (first | apply And.intro | exact flatI | exact flatS | exact rowLens | exact ih | (intro; skip) | apply obsN | apply obsC | apply obA | apply obM | apply obB | apply svA | apply tupA | apply lcA | apply lcS | apply svC | apply liC | apply lbC | apply lsC | apply vIc | apply vBc | apply vSc | apply vLc | apply mapC | apply mIc | apply mOc | apply mSc | apply mLc | apply Hc_iMeaC_sLa | apply Ec_iMeaC_sLa | apply EW0c_iMeaC_sLa | apply EW1c_iMeaC_sLa | apply c_iShape | apply ih)
  all_goals (try simp only [std] at *)
  all_goals (try (first | with_reducible apply c_iShape | with_reducible apply ih | (simp only [← List.map_append]; first | with_reducible apply c_iShape | with_reducible apply ih)))
  all_goals (try (first | with_reducible rfl | omega | assumption | (refine (decide_eq_true ?_).symm; assumption) | (refine (decide_eq_false ?_).symm; assumption) | (refine rowGet ?_; (first | omega | (simp only [std]; omega) | grind)) | (refine getC ?_ rfl; (first | omega | (simp only [std]; omega) | grind)) | exact look_mI | exact look_mO | exact look_mO1 | exact look_mS | exact look_mL | exact upd_mI | exact upd_mO | exact del_mO | exact upd_mS | exact take_mL | (refine upd_mL ?_; grind) | (refine fill_step ?_ ?_; (first | omega | (simp only [std]; omega) | grind); (first | rfl | exact (Row.eq _).trans rfl)) | (refine fill_init ?_; (first | rfl | exact (Row.eq _).trans rfl)) | (show (_ : St) = _; rfl) | grind [scan_step, scan_stop, getD_mem', snocI, snocS, rowSnoc]))
theorem run_c_iMeaC_s (c : Core) (deep : Int) (q : Int) : aexec Try.prog (Option.getD (Func.body Try.f168) Code.skip) (entry [Ob.box [vI q]] [coreA c, li deep, SV.one (AC.ptr 0 0)]
 41) [Orc.br [Orc.bool true, Orc.bool true, Orc.fin []] [Orc.br [Orc.bool true, Orc.fin []] [Orc.call [Mode.rd] [] (AV.sv (lb (shI c))), Orc.br [Orc.fin []] [Orc.ghost (Ghost.sel
 [0] [1, 2, 28, 29, 30]), Orc.loop (List.length (Core.kids c) - 0) (Lc_iMeaC_sLa c deep q 0) (Ic_iMeaC_sLa c deep q) [(Prod.fst (scan (fun x m => meaC x (deep + 1) m) (Core.kids c)
 (q + 1)) = true, AEx.exit 0, W0c_iMeaC_sLa c deep q (vI (Prod.snd (scan (fun x m => meaC x (deep + 1) m) (Core.kids c) (q + 1)))), [Orc.fin []]), (Prod.fst (scan (fun x m => meaC
 x (deep + 1) m) (Core.kids c) (q + 1)) = false, AEx.ret, W1c_iMeaC_sLa c deep q (lb false) (vI (Prod.snd (scan (fun x m => meaC x (deep + 1) m) (Core.kids c) (q + 1)))), [Orc.fin
 []])]]]]] (finK Try.prog [ResultVar.tmp 6] [Ob.box [vI (Prod.snd (meaC c deep q))]] (AV.sv (lb (Prod.fst (meaC c deep q))))) = (rng IntKind.i64 (q + 1) ∧ (decide (150 < deep) =
 true → true = true ∧ true = true ∧ ObsEq [Ob.box [vI (q + 1)]] [Ob.box [vI (Prod.snd (meaC c deep q))]] ∧ AV.sv (lb false) = AV.sv (lb (Prod.fst (meaC c deep q)))) ∧ (decide (150
 < deep) = false → (decide (3000 < q + 1) = true → true = true ∧ ObsEq [Ob.box [vI (q + 1)]] [Ob.box [vI (Prod.snd (meaC c deep q))]] ∧ AV.sv (lb false) = AV.sv (lb (Prod.fst (meaC
 c deep q)))) ∧ (decide (3000 < q + 1) = false → P_c_iShape c ∧ ((!shI c) = true → ObsEq [Ob.box [vI (q + 1)]] [Ob.box [vI (Prod.snd (meaC c deep q))]] ∧ AV.sv (lb false) = AV.sv
 (lb (Prod.fst (meaC c deep q)))) ∧ ((!shI c) = false → List.length (List.map coreC (Core.kids c)) ≤ 9223372036854775807 → Tc_iMeaC_sLa c deep q (li 0) (vI (q + 1)) = Lc_iMeaC_sLa
 c deep q 0 ∧ Ic_iMeaC_sLa c deep q (List.length (Core.kids c) - 0) (Lc_iMeaC_sLa c deep q 0) ∧ LoopSem Try.prog (loopAt Try.f168 0) (Ic_iMeaC_sLa c deep q) (Yc_iMeaC_sLa c deep q)
 ∧ (Prod.fst (scan (fun x m => meaC x (deep + 1) m) (Core.kids c) (q + 1)) = true → ObsEq [Ob.box [vI (Prod.snd (scan (fun x m => meaC x (deep + 1) m) (Core.kids c) (q + 1)))]]
 [Ob.box [vI (Prod.snd (meaC c deep q))]] ∧ AV.sv (lb true) = AV.sv (lb (Prod.fst (meaC c deep q)))) ∧ (Prod.fst (scan (fun x m => meaC x (deep + 1) m) (Core.kids c) (q + 1)) =
 false → ObsEq [Ob.box [vI (Prod.snd (scan (fun x m => meaC x (deep + 1) m) (Core.kids c) (q + 1)))]] [Ob.box [vI (Prod.snd (meaC c deep q))]] ∧ AV.sv (lb false) = AV.sv (lb
 (Prod.fst (meaC c deep q)))) ∧ True)))) := by kernel_rfl
theorem c_iMeaC_s (c : Core) (deep q : Int) (h : 0 ≤ deep ∧ deep ≤ 151 ∧ 0 ≤ q ∧ q ≤ 3000) (ih : ∀ z ∈ c.kids, ∀ (deep : Int) (q : Int) (h : 0 ≤ deep ∧ deep ≤ 151 ∧ 0 ≤ q ∧ q ≤
 3000), P_c_iMeaC z deep q)  : P_c_iMeaC c deep q := by
  refine CallOK.ofRun wide (run_c_iMeaC_s c deep q) Try.call168 Try.func168 rfl rfl rfl ?_
  with_reducible repeat' (first | apply And.intro | exact flatI | exact flatS | exact rowLens | exact ih | (intro; skip) | apply obsN | apply obsC | apply obA | apply obM | apply obB | apply svA | apply tupA | apply lcA | apply lcS | apply svC | apply liC | apply lbC | apply lsC | apply vIc | apply vBc | apply vSc | apply vLc | apply mapC | apply mIc | apply mOc | apply mSc | apply mLc | apply Hc_iMeaC_sLa | apply Ec_iMeaC_sLa | apply Sc_iMeaC_sLa | apply EW0c_iMeaC_sLa | apply EW1c_iMeaC_sLa | apply c_iShape)
  all_goals (try simp only [std] at *)
  all_goals (try (first | with_reducible apply c_iShape | with_reducible apply ih | (simp only [← List.map_append]; first | with_reducible apply c_iShape | with_reducible apply ih)))
  all_goals (try (first | with_reducible rfl | omega | assumption | (refine (decide_eq_true ?_).symm; assumption) | (refine (decide_eq_false ?_).symm; assumption) | (refine rowGet ?_; (first | omega | (simp only [std]; omega) | grind)) | (refine getC ?_ rfl; (first | omega | (simp only [std]; omega) | grind)) | exact look_mI | exact look_mO | exact look_mO1 | exact look_mS | exact look_mL | exact upd_mI | exact upd_mO | exact del_mO | exact upd_mS | exact take_mL | (refine upd_mL ?_; grind) | (refine fill_step ?_ ?_; (first | omega | (simp only [std]; omega) | grind); (first | rfl | exact (Row.eq _).trans rfl)) | (refine fill_init ?_; (first | rfl | exact (Row.eq _).trans rfl)) | (show (_ : St) = _; rfl) | grind [meaC_eq, scan, snocI, snocS, rowSnoc]))
theorem c_iMeaC (c : Core) : ∀ (deep : Int) (q : Int) (h : 0 ≤ deep ∧ deep ≤ 151 ∧ 0 ≤ q ∧ q ≤ 3000), P_c_iMeaC c deep q := Core.ind (P := fun c => ∀ (deep : Int) (q : Int) (h : 0 ≤ deep ∧ deep ≤ 151 ∧ 0 ≤ q ∧ q ≤ 3000), P_c_iMeaC c deep q) (fun c ih deep q h => c_iMeaC_s c deep q h ih) c
abbrev P_c_iDiff (Ls : List (List Int)) : Prop := CallOK Try.prog 169 [] [ll (Ls.map lintC)] [] (.sv (lb (okU Ls.flatten)))
def Tc_iDiffLb (Ls : List (List Int)) (k : Nat) (x0 : SV) (x1 : Ob) : St := St.mk (regsOf 37 [(3, AV.sv (SV.one (AC.mref 0))), (9, AV.sv (ll (List.map lintC Ls))), (10, AV.sv (li
 (↑(List.length (List.map lintC Ls)) : Int))), (11, AV.sv (li (↑k : Int))), (15, AV.sv (ll (List.map intC (List.getD Ls k [])))), (16, AV.sv (li (↑(List.length (List.map intC
 (List.getD Ls k []))) : Int))), (17, AV.sv x0)]) [x1] 0 
def Lc_iDiffLb (Ls : List (List Int)) (k : Nat) (k1 : Nat) : St := Tc_iDiffLb Ls k (li (↑k1 : Int)) (Ob.map false kI (mI (memI (List.flatten (List.take k Ls) ++ List.take k1
 (List.getD Ls k []))))) 
def Ic_iDiffLb (Ls : List (List Int)) (k : Nat) : Nat → St → Prop := Head (Lc_iDiffLb Ls k) (fun k1 => k1 ≤ List.length (List.getD Ls k []) ∧ List.length (List.getD Ls k []) ≤
 9223372036854775807 ∧ k < List.length Ls ∧ okU (List.flatten (List.take k Ls) ++ List.take k1 (List.getD Ls k [])) = true) fun k1 => List.length (List.getD Ls k []) - k1 
def W0c_iDiffLb (Ls : List (List Int)) (k : Nat) (x0 : Ob) : St := St.mk (regsOf 37 [(3, AV.sv (SV.one (AC.mref 0))), (9, AV.sv (ll (List.map lintC Ls))), (10, AV.sv (li
 (↑(List.length (List.map lintC Ls)) : Int))), (11, AV.sv (li (↑k : Int)))]) [x0] 0 
def W1c_iDiffLb (Ls : List (List Int)) (k : Nat) (x0 : SV) : St := St.mk (regsOf 37 [(2, AV.sv x0)]) [] 0 
def Yc_iDiffLb (Ls : List (List Int)) (k : Nat) : List (Prop × AEx × St) := [(okU (List.flatten (List.take (k + 1) Ls)) = true, AEx.exit 2, W0c_iDiffLb Ls k (Ob.map false kI (mI
 (memI (List.flatten (List.take (k + 1) Ls)))))), (okU (List.flatten Ls) = false, AEx.ret, W1c_iDiffLb Ls k (lb false))]
def Tc_iDiffLa (Ls : List (List Int)) (x0 : SV) (x1 : Ob) : St := St.mk (regsOf 37 [(3, AV.sv (SV.one (AC.mref 0))), (9, AV.sv (ll (List.map lintC Ls))), (10, AV.sv (li
 (↑(List.length (List.map lintC Ls)) : Int))), (11, AV.sv x0)]) [x1] 0 
def Lc_iDiffLa (Ls : List (List Int)) (k : Nat) : St := Tc_iDiffLa Ls (li (↑k : Int)) (Ob.map false kI (mI (memI (List.flatten (List.take k Ls))))) 
def Ic_iDiffLa (Ls : List (List Int)) : Nat → St → Prop := Head (Lc_iDiffLa Ls) (fun k => k ≤ List.length Ls ∧ List.length Ls ≤ 9223372036854775807 ∧ okU (List.flatten (List.take k
 Ls)) = true) fun k => List.length Ls - k 
def W0c_iDiffLa (Ls : List (List Int)) : St := St.mk (regsOf 37 []) [] 0 
def W1c_iDiffLa (Ls : List (List Int)) (x0 : SV) : St := St.mk (regsOf 37 [(2, AV.sv x0)]) [] 0 
def Yc_iDiffLa (Ls : List (List Int)) : List (Prop × AEx × St) := [(okU (List.flatten Ls) = true, AEx.exit 0, W0c_iDiffLa Ls), (okU (List.flatten Ls) = false, AEx.ret, W1c_iDiffLa
 Ls (lb false))]
theorem Hc_iDiffLb {Ls : List (List Int)} {k : Nat} {k1 : Nat} {m : Nat} (h : (fun k1 => k1 ≤ List.length (List.getD Ls k []) ∧ List.length (List.getD Ls k []) ≤
 9223372036854775807 ∧ k < List.length Ls ∧ okU (List.flatten (List.take k Ls) ++ List.take k1 (List.getD Ls k [])) = true) k1) (hm : (fun k1 => List.length (List.getD Ls k []) -
 k1) k1 = m) : Ic_iDiffLb Ls k m (Lc_iDiffLb Ls k k1) := hm ▸ Head.mk h
theorem Ec_iDiffLb {Ls : List (List Int)} {k : Nat} {k1 : Nat} {x0 : SV} {x1 : Ob} (h0 : x0 = (li (↑k1 : Int))) (h1 : x1 = (Ob.map false kI (mI (memI (List.flatten (List.take k Ls)
 ++ List.take k1 (List.getD Ls k [])))))) : Tc_iDiffLb Ls k x0 x1 = Lc_iDiffLb Ls k k1 := by
  rw [h0, h1]
  rfl
theorem EW0c_iDiffLb {Ls : List (List Int)} {k : Nat} {x0 y0 : Ob} (h0 : x0 = y0) : W0c_iDiffLb Ls k x0 = W0c_iDiffLb Ls k y0 := by rw [h0]
theorem EW1c_iDiffLb {Ls : List (List Int)} {k : Nat} {x0 y0 : SV} (h0 : x0 = y0) : W1c_iDiffLb Ls k x0 = W1c_iDiffLb Ls k y0 := by rw [h0]
theorem run_c_iDiffLb (Ls : List (List Int)) (k : Nat) (k1 : Nat) : aexec Try.prog (loopAt Try.f169 1) (Lc_iDiffLb Ls k k1) [Orc.br [Orc.cells (intC (List.getD (List.getD Ls k [])
 k1 default)), Orc.br [Orc.bool true, Orc.bool true, Orc.ghost (Ghost.sel [] [2]), Orc.out 1] [Orc.br [Orc.bool true, Orc.ghost (Ghost.sel [] [2]), Orc.out 1] [Orc.cells [cI (memI
 (List.flatten (List.take k Ls) ++ List.take k1 (List.getD Ls k [])) (List.getD (List.getD Ls k []) k1 0))], Orc.br [Orc.ghost (Ghost.sel [] [2]), Orc.out 1] [Orc.upd (mI (upd1
 (memI (List.flatten (List.take k Ls) ++ List.take k1 (List.getD Ls k []))) (List.getD (List.getD Ls k []) k1 0) 1)), Orc.ghost (Ghost.sel [0] [3, 9, 10, 11, 15, 16, 17]), Orc.goto
 (List.length (List.getD Ls k []) - (k1 + 1)) (Lc_iDiffLb Ls k (k1 + 1))]]]] [Orc.ghost (Ghost.sel [0] [3, 9, 10, 11]), Orc.out 0]] (loopK (Ic_iDiffLb Ls k) (Yc_iDiffLb Ls k)
 (List.length (List.getD Ls k []) - k1)) = ((decide ((↑k1 : Int) < (↑(List.length (List.map intC (List.getD Ls k []))) : Int)) = true → (0 ≤ (↑k1 : Int) ∧ (List.map intC (List.getD
 Ls k []))[Int.toNat (↑k1 : Int)]? = some [cI (List.getD (List.getD Ls k []) k1 0)]) ∧ (decide (List.getD (List.getD Ls k []) k1 (0 : Int) < 0) = true → true = true ∧ true = true ∧
 okU (List.flatten Ls) = false ∧ W1c_iDiffLa Ls (lb false) = W1c_iDiffLb Ls k (lb false)) ∧ (decide (List.getD (List.getD Ls k []) k1 (0 : Int) < 0) = false → (decide (99999 <
 List.getD (List.getD Ls k []) k1 0) = true → true = true ∧ okU (List.flatten Ls) = false ∧ W1c_iDiffLa Ls (lb false) = W1c_iDiffLb Ls k (lb false)) ∧ (decide (99999 < List.getD
 (List.getD Ls k []) k1 0) = false → LookAt (Value.int IntKind.i64 0) (mI (memI (List.flatten (List.take k Ls) ++ List.take k1 (List.getD Ls k [])))) (Value.int IntKind.i64
 (List.getD (List.getD Ls k []) k1 0)) (cI (memI (List.flatten (List.take k Ls) ++ List.take k1 (List.getD Ls k [])) (List.getD (List.getD Ls k []) k1 0))) ∧ (decide (memI
 (List.flatten (List.take k Ls) ++ List.take k1 (List.getD Ls k [])) (List.getD (List.getD Ls k []) k1 0) = 1) = true → okU (List.flatten Ls) = false ∧ W1c_iDiffLa Ls (lb false) =
 W1c_iDiffLb Ls k (lb false)) ∧ (decide (memI (List.flatten (List.take k Ls) ++ List.take k1 (List.getD Ls k [])) (List.getD (List.getD Ls k []) k1 0) = 1) = false → false = false
 ∧ UpdF (MK.d kI) (mI (memI (List.flatten (List.take k Ls) ++ List.take k1 (List.getD Ls k [])))) (mI (upd1 (memI (List.flatten (List.take k Ls) ++ List.take k1 (List.getD Ls k
 []))) (List.getD (List.getD Ls k []) k1 0) 1)) (Value.int IntKind.i64 (List.getD (List.getD Ls k []) k1 0)) (some (cI 1)) ∧ rng IntKind.i64 ((↑k1 : Int) + 1) ∧ List.length
 (List.getD Ls k []) - (k1 + 1) < List.length (List.getD Ls k []) - k1 ∧ Tc_iDiffLb Ls k (li ((↑k1 : Int) + 1)) (Ob.map false kI (mI (upd1 (memI (List.flatten (List.take k Ls) ++
 List.take k1 (List.getD Ls k []))) (List.getD (List.getD Ls k []) k1 0) 1))) = Lc_iDiffLb Ls k (k1 + 1) ∧ Ic_iDiffLb Ls k (List.length (List.getD Ls k []) - (k1 + 1)) (Lc_iDiffLb
 Ls k (k1 + 1)))))) ∧ (decide ((↑k1 : Int) < (↑(List.length (List.map intC (List.getD Ls k []))) : Int)) = false → okU (List.flatten (List.take (k + 1) Ls)) = true ∧ W0c_iDiffLb Ls
 k (Ob.map false kI (mI (memI (List.flatten (List.take k Ls) ++ List.take k1 (List.getD Ls k []))))) = W0c_iDiffLb Ls k (Ob.map false kI (mI (memI (List.flatten (List.take (k + 1)
 Ls))))))) := by kernel_rfl
theorem Hc_iDiffLa {Ls : List (List Int)} {k : Nat} {m : Nat} (h : (fun k => k ≤ List.length Ls ∧ List.length Ls ≤ 9223372036854775807 ∧ okU (List.flatten (List.take k Ls)) = true)
 k) (hm : (fun k => List.length Ls - k) k = m) : Ic_iDiffLa Ls m (Lc_iDiffLa Ls k) := hm ▸ Head.mk h
theorem Ec_iDiffLa {Ls : List (List Int)} {k : Nat} {x0 : SV} {x1 : Ob} (h0 : x0 = (li (↑k : Int))) (h1 : x1 = (Ob.map false kI (mI (memI (List.flatten (List.take k Ls)))))) :
 Tc_iDiffLa Ls x0 x1 = Lc_iDiffLa Ls k := by
  rw [h0, h1]
  rfl
theorem EW1c_iDiffLa {Ls : List (List Int)} {x0 y0 : SV} (h0 : x0 = y0) : W1c_iDiffLa Ls x0 = W1c_iDiffLa Ls y0 := by rw [h0]
theorem run_c_iDiffLa (Ls : List (List Int)) (k : Nat) : aexec Try.prog (loopAt Try.f169 0) (Lc_iDiffLa Ls k) [Orc.br [Orc.cells (lintF (List.getD Ls k default)), Orc.ghost
 (Ghost.sel [0] [3, 9, 10, 11, 15, 16, 17]), Orc.loop (List.length (List.getD Ls k []) - 0) (Lc_iDiffLb Ls k 0) (Ic_iDiffLb Ls k) [(okU (List.flatten (List.take (k + 1) Ls)) =
 true, AEx.exit 2, W0c_iDiffLb Ls k (Ob.map false kI (mI (memI (List.flatten (List.take (k + 1) Ls))))), [Orc.ghost (Ghost.sel [0] [3, 9, 10, 11]), Orc.goto (List.length Ls - (k +
 1)) (Lc_iDiffLa Ls (k + 1))]), (okU (List.flatten Ls) = false, AEx.ret, W1c_iDiffLb Ls k (lb false), [Orc.ghost (Ghost.sel [] [2]), Orc.out 1])]] [Orc.ghost (Ghost.sel [] []),
 Orc.out 0]] (loopK (Ic_iDiffLa Ls) (Yc_iDiffLa Ls) (List.length Ls - k)) = ((decide ((↑k : Int) < (↑(List.length (List.map lintC Ls)) : Int)) = true → (0 ≤ (↑k : Int) ∧ (List.map
 lintC Ls)[Int.toNat (↑k : Int)]? = some [Cell.list (List.map intC (List.getD Ls k []))]) ∧ (List.length (List.map intC (List.getD Ls k [])) ≤ 9223372036854775807 → Tc_iDiffLb Ls k
 (li 0) (Ob.map false kI (mI (memI (List.flatten (List.take k Ls))))) = Lc_iDiffLb Ls k 0 ∧ Ic_iDiffLb Ls k (List.length (List.getD Ls k []) - 0) (Lc_iDiffLb Ls k 0) ∧ LoopSem
 Try.prog (loopAt Try.f169 1) (Ic_iDiffLb Ls k) (Yc_iDiffLb Ls k) ∧ (okU (List.flatten (List.take (k + 1) Ls)) = true → rng IntKind.i64 ((↑k : Int) + 1) ∧ List.length Ls - (k + 1)
 < List.length Ls - k ∧ Tc_iDiffLa Ls (li ((↑k : Int) + 1)) (Ob.map false kI (mI (memI (List.flatten (List.take (k + 1) Ls))))) = Lc_iDiffLa Ls (k + 1) ∧ Ic_iDiffLa Ls (List.length
 Ls - (k + 1)) (Lc_iDiffLa Ls (k + 1))) ∧ (okU (List.flatten Ls) = false → okU (List.flatten Ls) = false ∧ W1c_iDiffLa Ls (lb false) = W1c_iDiffLa Ls (lb false)) ∧ True)) ∧ (decide
 ((↑k : Int) < (↑(List.length (List.map lintC Ls)) : Int)) = false → okU (List.flatten Ls) = true ∧ W0c_iDiffLa Ls = W0c_iDiffLa Ls)) := by kernel_rfl
theorem Sc_iDiffLb (Ls : List (List Int)) (k : Nat)  : LoopSem Try.prog (loopAt Try.f169 1) (Ic_iDiffLb Ls k) (Yc_iDiffLb Ls k) := by
  refine LoopSem.ofHead wide fun k1 h => ⟨_, _, run_c_iDiffLb Ls k k1, ?_⟩
  have g1 := @okU_part Ls k (k1 + 1)
  have g2 := @takeI (Ls.getD k []) k1
  have g3 := @okU_snoc ((Ls.take k).flatten ++ (Ls.getD k []).take k1) ((Ls.getD k []).getD k1 0)
  have g4 := @memI_one ((Ls.take k).flatten ++ (Ls.getD k []).take k1) ((Ls.getD k []).getD k1 0)
  have g5 : ∀ j, (Ls.getD k []).length ≤ j → (Ls.getD k []).take j = Ls.getD k [] := fun j h => List.take_of_length_le h
  with_reducible repeat' (first | apply And.intro | exact flatI | exact flatS | exact rowLens | (intro; skip) | apply obsN | apply obsC | apply obA | apply obM | apply obB | apply svA | apply tupA | apply lcA | apply lcS | apply svC | apply liC | apply lbC | apply lsC | apply vIc | apply vBc | apply vSc | apply vLc | apply mapC | apply mIc | apply mOc | apply mSc | apply mLc | apply Hc_iDiffLa | apply Ec_iDiffLa | apply Hc_iDiffLb | apply Ec_iDiffLb | apply EW0c_iDiffLb | apply EW1c_iDiffLb | apply EW1c_iDiffLa)
  all_goals (try simp only [std] at *)
  all_goals (try (first | with_reducible rfl | omega | assumption | (refine (decide_eq_true ?_).symm; assumption) | (refine (decide_eq_false ?_).symm; assumption) | (refine rowGet ?_; (first | omega | (simp only [std]; omega) | grind)) | (refine getC ?_ rfl; (first | omega | (simp only [std]; omega) | grind)) | exact look_mI | exact look_mO | exact look_mO1 | exact look_mS | exact look_mL | exact upd_mI | exact upd_mO | exact del_mO | exact upd_mS | exact take_mL | (refine upd_mL ?_; grind) | (refine fill_step ?_ ?_; (first | omega | (simp only [std]; omega) | grind); (first | rfl | exact (Row.eq _).trans rfl)) | (refine fill_init ?_; (first | rfl | exact (Row.eq _).trans rfl)) | (show (_ : St) = _; rfl) | grind [takeLs, memI_snoc, List.append_assoc, snocI, snocS, rowSnoc]))
theorem Sc_iDiffLa (Ls : List (List Int))  : LoopSem Try.prog (loopAt Try.f169 0) (Ic_iDiffLa Ls) (Yc_iDiffLa Ls) := by
  refine LoopSem.ofHead wide fun k h => ⟨_, _, run_c_iDiffLa Ls k, ?_⟩
  with_reducible repeat' (first | apply And.intro | exact flatI | exact flatS | exact rowLens | (intro; skip) | apply obsN | apply obsC | apply obA | apply obM | apply obB | apply svA | apply tupA | apply lcA | apply lcS | apply svC | apply liC | apply lbC | apply lsC | apply vIc | apply vBc | apply vSc | apply vLc | apply mapC | apply mIc | apply mOc | apply mSc | apply mLc | apply Hc_iDiffLa | apply Ec_iDiffLa | apply Hc_iDiffLb | apply Ec_iDiffLb | apply Sc_iDiffLb | apply EW0c_iDiffLb | apply EW1c_iDiffLb | apply EW1c_iDiffLa)
  all_goals (try simp only [std] at *)
  all_goals (try (first | with_reducible rfl | omega | assumption | (refine (decide_eq_true ?_).symm; assumption) | (refine (decide_eq_false ?_).symm; assumption) | (refine rowGet ?_; (first | omega | (simp only [std]; omega) | grind)) | (refine getC ?_ rfl; (first | omega | (simp only [std]; omega) | grind)) | exact look_mI | exact look_mO | exact look_mO1 | exact look_mS | exact look_mL | exact upd_mI | exact upd_mO | exact del_mO | exact upd_mS | exact take_mL | (refine upd_mL ?_; grind) | (refine fill_step ?_ ?_; (first | omega | (simp only [std]; omega) | grind); (first | rfl | exact (Row.eq _).trans rfl)) | (refine fill_init ?_; (first | rfl | exact (Row.eq _).trans rfl)) | (show (_ : St) = _; rfl) | grind [takeLs, snocI, snocS, rowSnoc]))
theorem run_c_iDiff (Ls : List (List Int)) : aexec Try.prog (Option.getD (Func.body Try.f169) Code.skip) (entry [] [ll (List.map lintC Ls)] 37) [Orc.mkmap kI, Orc.ghost (Ghost.sel
 [0] [3, 9, 10, 11]), Orc.loop (List.length Ls - 0) (Lc_iDiffLa Ls 0) (Ic_iDiffLa Ls) [(okU (List.flatten Ls) = true, AEx.exit 0, W0c_iDiffLa Ls, [Orc.fin []]), (okU (List.flatten
 Ls) = false, AEx.ret, W1c_iDiffLa Ls (lb false), [Orc.fin []])]] (finK Try.prog [ResultVar.tmp 2] [] (AV.sv (lb (okU (List.flatten Ls))))) = (List.length (List.map lintC Ls) ≤
 9223372036854775807 → Tc_iDiffLa Ls (li 0) (Ob.map false kI (mI zI)) = Lc_iDiffLa Ls 0 ∧ Ic_iDiffLa Ls (List.length Ls - 0) (Lc_iDiffLa Ls 0) ∧ LoopSem Try.prog (loopAt Try.f169
 0) (Ic_iDiffLa Ls) (Yc_iDiffLa Ls) ∧ (okU (List.flatten Ls) = true → ObsEq [] [] ∧ AV.sv (lb true) = AV.sv (lb (okU (List.flatten Ls)))) ∧ (okU (List.flatten Ls) = false → ObsEq
 [] [] ∧ AV.sv (lb false) = AV.sv (lb (okU (List.flatten Ls)))) ∧ True) := by kernel_rfl
theorem c_iDiff (Ls : List (List Int))  : P_c_iDiff Ls := by
  refine CallOK.ofRun wide (run_c_iDiff Ls) Try.call169 Try.func169 rfl rfl rfl ?_
  with_reducible repeat' (first | apply And.intro | exact flatI | exact flatS | exact rowLens | (intro; skip) | apply obsN | apply obsC | apply obA | apply obM | apply obB | apply svA | apply tupA | apply lcA | apply lcS | apply svC | apply liC | apply lbC | apply lsC | apply vIc | apply vBc | apply vSc | apply vLc | apply mapC | apply mIc | apply mOc | apply mSc | apply mLc | apply Hc_iDiffLa | apply Ec_iDiffLa | apply Sc_iDiffLa | apply Hc_iDiffLb | apply Ec_iDiffLb | apply Sc_iDiffLb | apply EW0c_iDiffLb | apply EW1c_iDiffLb | apply EW1c_iDiffLa)
  all_goals (try simp only [std] at *)
  all_goals (try (first | with_reducible rfl | omega | assumption | (refine (decide_eq_true ?_).symm; assumption) | (refine (decide_eq_false ?_).symm; assumption) | (refine rowGet ?_; (first | omega | (simp only [std]; omega) | grind)) | (refine getC ?_ rfl; (first | omega | (simp only [std]; omega) | grind)) | exact look_mI | exact look_mO | exact look_mO1 | exact look_mS | exact look_mL | exact upd_mI | exact upd_mO | exact del_mO | exact upd_mS | exact take_mL | (refine upd_mL ?_; grind) | (refine fill_step ?_ ?_; (first | omega | (simp only [std]; omega) | grind); (first | rfl | exact (Row.eq _).trans rfl)) | (refine fill_init ?_; (first | rfl | exact (Row.eq _).trans rfl)) | (show (_ : St) = _; rfl) | grind [memI_nil, okU_nil, snocI, snocS, rowSnoc]))
abbrev P_c_iValid (c : Core) : Prop := CallOK Try.prog 174 [] [coreA c] [] (.sv (lb (valC c)))
theorem run_c_iValid (c : Core) : aexec Try.prog (Option.getD (Func.body Try.f174) Code.skip) (entry [] [coreA c] 14) [Orc.draw [(1, [1]), (7, [10, 18])], Orc.call [Mode.rd,
 Mode.rd, Mode.ptr] [Ob.box [vI (Prod.snd (meaC c 1 0))]] (AV.sv (lb (Prod.fst (meaC c 1 0)))), Orc.br [Orc.call [Mode.rd] [Ob.arr true 1 (List.map intC (fre c [] []))] (AV.sv
 (SV.one (AC.ref 0))), Orc.call [Mode.rd] [Ob.arr true 1 (List.map intC (bnd c))] (AV.sv (SV.one (AC.ref 0))), Orc.call [Mode.rd] [] (AV.sv (lb (okU (List.flatten [fre c [] [], bnd
 c])))), Orc.fin []] [Orc.fin []]] (finK Try.prog [ResultVar.tmp 2] [] (AV.sv (lb (valC c)))) = (P_c_iMeaC c 1 0 ∧ (Prod.fst (meaC c 1 0) = true → P_c_iFree c ∧ P_c_iBoundVariables
 c ∧ P_c_iDiff [fre c [] [], bnd c] ∧ ObsEq [] [] ∧ AV.sv (lb (okU (List.flatten [fre c [] [], bnd c]))) = AV.sv (lb (valC c))) ∧ (Prod.fst (meaC c 1 0) = false → ObsEq [] [] ∧
 AV.sv (lb false) = AV.sv (lb (valC c)))) := by kernel_rfl
theorem c_iValid (c : Core) (h : wC c ≤ 90000000)  : P_c_iValid c := by
  refine CallOK.ofRun wide (run_c_iValid c) Try.call174 Try.func174 rfl rfl rfl ?_
  have g1 := bnd_le c
  have g2 := fre_len c [] []
  with_reducible repeat' (first | apply And.intro | exact flatI | exact flatS | exact rowLens | (intro; skip) | apply obsN | apply obsC | apply obA | apply obM | apply obB | apply svA | apply tupA | apply lcA | apply lcS | apply svC | apply liC | apply lbC | apply lsC | apply vIc | apply vBc | apply vSc | apply vLc | apply mapC | apply mIc | apply mOc | apply mSc | apply mLc | apply c_iMeaC | apply c_iDiff | apply c_iBoundVariables | apply c_iFree)
  all_goals (try simp only [std] at *)
  all_goals (try (first | with_reducible apply c_iMeaC | with_reducible apply c_iDiff | with_reducible apply c_iBoundVariables | with_reducible apply c_iFree | (simp only [← List.map_append]; first | with_reducible apply c_iMeaC | with_reducible apply c_iDiff | with_reducible apply c_iBoundVariables | with_reducible apply c_iFree)))
  all_goals (try (first | with_reducible rfl | omega | assumption | (refine (decide_eq_true ?_).symm; assumption) | (refine (decide_eq_false ?_).symm; assumption) | (refine rowGet ?_; (first | omega | (simp only [std]; omega) | grind)) | (refine getC ?_ rfl; (first | omega | (simp only [std]; omega) | grind)) | exact look_mI | exact look_mO | exact look_mO1 | exact look_mS | exact look_mL | exact upd_mI | exact upd_mO | exact del_mO | exact upd_mS | exact take_mL | (refine upd_mL ?_; grind) | (refine fill_step ?_ ?_; (first | omega | (simp only [std]; omega) | grind); (first | rfl | exact (Row.eq _).trans rfl)) | (refine fill_init ?_; (first | rfl | exact (Row.eq _).trans rfl)) | (show (_ : St) = _; rfl) | grind [valC, meaC_sm, snocI, snocS, rowSnoc]))
abbrev P_c_iInts (L : List Int) : Prop := CallOK Try.prog 181 [] [ll (L.map intC)] [.arr true 1 (L.map intC)] (.sv (.one (.ref 0)))
theorem run_c_iInts (L : List Int) : aexec Try.prog (Option.getD (Func.body Try.f181) Code.skip) (entry [] [ll (List.map intC L)] 5) [Orc.bool true, Orc.fin [0]] (finK Try.prog
 [ResultVar.tmp 2] [Ob.arr true 1 (List.map intC L)] (AV.sv (SV.one (AC.ref 0)))) = ((∀ (e : List Cell), e ∈ List.map intC L → ∀ (c : Cell), c ∈ e → ∃ v, c = Cell.lit v) ∧ (∀ (e :
 List Cell), e ∈ List.map intC L → List.length e = 1) ∧ (0 + List.length (List.map intC L)) * 8 ≤ 140737488355328 ∧ ObsEq [Ob.arr true 1 (List.map intC L)] [Ob.arr true 1 (List.map
 intC L)] ∧ AV.sv (SV.one (AC.ref 0)) = AV.sv (SV.one (AC.ref 0))) := by kernel_rfl
theorem c_iInts (L : List Int) (h : L.length ≤ 2147483647)  : P_c_iInts L := by
  refine CallOK.ofRun wide (run_c_iInts L) Try.call181 Try.func181 rfl rfl rfl ?_
  with_reducible repeat' (first | apply And.intro | exact flatI | exact flatS | exact rowLens | (intro; skip) | apply obsN | apply obsC | apply obA | apply obM | apply obB | apply svA | apply tupA | apply lcA | apply lcS | apply svC | apply liC | apply lbC | apply lsC | apply vIc | apply vBc | apply vSc | apply vLc | apply mapC | apply mIc | apply mOc | apply mSc | apply mLc)
  all_goals (try simp only [std] at *)
  all_goals (try (first | with_reducible rfl | omega | assumption | (refine (decide_eq_true ?_).symm; assumption) | (refine (decide_eq_false ?_).symm; assumption) | (refine rowGet ?_; (first | omega | (simp only [std]; omega) | grind)) | (refine getC ?_ rfl; (first | omega | (simp only [std]; omega) | grind)) | exact look_mI | exact look_mO | exact look_mO1 | exact look_mS | exact look_mL | exact upd_mI | exact upd_mO | exact del_mO | exact upd_mS | exact take_mL | (refine upd_mL ?_; grind) | (refine fill_step ?_ ?_; (first | omega | (simp only [std]; omega) | grind); (first | rfl | exact (Row.eq _).trans rfl)) | (refine fill_init ?_; (first | rfl | exact (Row.eq _).trans rfl)) | (show (_ : St) = _; rfl) | grind [snocI, snocS, rowSnoc]))
end Go.Proofs.Ytehpjofddjmbpaa
end
section
namespace Go.Proofs.Ytehpjofddjmbpaa
open Go Go.Proofs.Ytehpjofddjmbpaa.Ab
set_option linter.unusedVariables false
set_option linter.unusedSimpArgs false
set_option maxHeartbeats 4000000
def lookN (L : List Int) (n : Int) : Nat → Int
  | 0 => -1
  | k + 1 => if L.getD k default = n then k else lookN L n k
def lookL (L : List Int) (n : Int) : Int := lookN L n L.length
theorem lookN_lt (L : List Int) (n : Int) : ∀ k, -1 ≤ lookN L n k ∧ lookN L n k < k
  | 0 => by simp [lookN]
  | k + 1 => by have := lookN_lt L n k; unfold lookN; split <;> omega
theorem lookL_lt (L : List Int) (n : Int) : -1 ≤ lookL L n ∧ lookL L n < L.length := lookN_lt L n L.length
theorem lookN_append (L P : List Int) (n : Int) : ∀ k, k ≤ L.length → lookN (L ++ P) n k = lookN L n k
  | 0, _ => rfl
  | k + 1, h => by
    have e : (L ++ P).getD k default = L.getD k default := by
      simp only [List.getD_eq_getElem?_getD]; rw [List.getElem?_append_left (by omega)]
    unfold lookN; rw [e, lookN_append L P n k (by omega)]
theorem lookL_snoc (L : List Int) (x n : Int) : lookL (L ++ [x]) n = if x = n then (L.length : Int) else lookL L n := by
  unfold lookL
  rw [List.length_append, List.length_singleton, lookN]
  have e : (L ++ [x]).getD L.length default = x := by simp
  rw [e, lookN_append L [x] n L.length (Nat.le_refl _)]
theorem lookL_nil (n : Int) : lookL [] n = -1 := rfl
theorem lookN_none (L : List Int) (n : Int) : ∀ k, k ≤ L.length → (lookN L n k = -1 ↔ n ∉ L.take k)
  | 0, _ => by simp [lookN]
  | k + 1, h => by
    rw [take_get (by omega)]
    have := lookN_none L n k (by omega)
    have h2 := lookN_lt L n k
    unfold lookN
    simp only [List.mem_append, List.mem_singleton]
    split <;> grind
theorem lookL_none (L : List Int) (n : Int) : lookL L n = -1 ↔ n ∉ L := by
  have := lookN_none L n L.length (Nat.le_refl _); rwa [List.take_length] at this
abbrev P_c_sLook (L : List Int) (n : Int) : Prop := CallOK Try.prog 251 [] [ll (L.map intC), li n] [] (.sv (li (lookL L n)))
def Tc_sLookLa (L : List Int) (n : Int) (x0 : SV) : St := St.mk (regsOf 20 [(0, AV.sv (ll (List.map intC L))), (1, AV.sv (li n)), (5, AV.sv x0)]) [] 0 
def Lc_sLookLa (L : List Int) (n : Int) (k : Int) : St := Tc_sLookLa L n (li k) 
def Ic_sLookLa (L : List Int) (n : Int) : Nat → St → Prop := Head (Lc_sLookLa L n) (fun k => (-1 : Int) ≤ k ∧ k < (↑(List.length L) : Int) ∧ (↑(List.length L) : Int) ≤
 9223372036854775807 ∧ lookL L n = lookN L n (Int.toNat (k + 1))) fun k => Int.toNat (k + 1) 
def W0c_sLookLa (L : List Int) (n : Int) : St := St.mk (regsOf 20 []) [] 0 
def W1c_sLookLa (L : List Int) (n : Int) (x0 : SV) : St := St.mk (regsOf 20 [(4, AV.sv x0)]) [] 0 
def Yc_sLookLa (L : List Int) (n : Int) : List (Prop × AEx × St) := [(lookL L n = (-1 : Int), AEx.exit 0, W0c_sLookLa L n), (True, AEx.ret, W1c_sLookLa L n (li (lookL L n)))]
theorem Hc_sLookLa {L : List Int} {n : Int} {k : Int} {m : Nat} (h : (fun k => (-1 : Int) ≤ k ∧ k < (↑(List.length L) : Int) ∧ (↑(List.length L) : Int) ≤ 9223372036854775807 ∧
 lookL L n = lookN L n (Int.toNat (k + 1))) k) (hm : (fun k => Int.toNat (k + 1)) k = m) : Ic_sLookLa L n m (Lc_sLookLa L n k) := hm ▸ Head.mk h
theorem Ec_sLookLa {L : List Int} {n : Int} {k : Int} {x0 : SV} (h0 : x0 = (li k)) : Tc_sLookLa L n x0 = Lc_sLookLa L n k := by
  rw [h0]
  rfl
theorem EW1c_sLookLa {L : List Int} {n : Int} {x0 y0 : SV} (h0 : x0 = y0) : W1c_sLookLa L n x0 = W1c_sLookLa L n y0 := by rw [h0]
theorem run_c_sLookLa (L : List Int) (n : Int) (k : Int) : aexec Try.prog (loopAt Try.f251 0) (Lc_sLookLa L n k) [Orc.br [Orc.cells (intC (List.getD L (Int.toNat k) default)),
 Orc.br [Orc.ghost (Ghost.sel [] [4]), Orc.out 1] [Orc.ghost (Ghost.sel [] [0, 1, 5]), Orc.goto (Int.toNat (k - 1 + 1)) (Lc_sLookLa L n (k - 1))]] [Orc.ghost (Ghost.sel [] []),
 Orc.out 0]] (loopK (Ic_sLookLa L n) (Yc_sLookLa L n) (Int.toNat (k + 1))) = ((decide (0 ≤ k) = true → (0 ≤ k ∧ (List.map intC L)[Int.toNat k]? = some [cI (List.getD L (Int.toNat
 k) 0)]) ∧ (decide (List.getD L (Int.toNat k) 0 = n) = true → True ∧ W1c_sLookLa L n (li k) = W1c_sLookLa L n (li (lookL L n))) ∧ (decide (List.getD L (Int.toNat k) 0 = n) = false
 → rng IntKind.i64 (k - 1) ∧ Int.toNat (k - 1 + 1) < Int.toNat (k + 1) ∧ Tc_sLookLa L n (li (k - 1)) = Lc_sLookLa L n (k - 1) ∧ Ic_sLookLa L n (Int.toNat (k - 1 + 1)) (Lc_sLookLa L
 n (k - 1)))) ∧ (decide (0 ≤ k) = false → lookL L n = (-1 : Int) ∧ W0c_sLookLa L n = W0c_sLookLa L n)) := by kernel_rfl
theorem Sc_sLookLa (L : List Int) (n : Int)  : LoopSem Try.prog (loopAt Try.f251 0) (Ic_sLookLa L n) (Yc_sLookLa L n) := by
  refine LoopSem.ofHead wide fun k h => ⟨_, _, run_c_sLookLa L n k, ?_⟩
  have g : 0 ≤ k → lookN L n (k + 1).toNat = if L.getD k.toNat 0 = n then k else lookN L n (k - 1 + 1).toNat := by
    intro hk
    have e1 : (k + 1).toNat = k.toNat + 1 := by omega
    have e2 : (k - 1 + 1).toNat = k.toNat := by omega
    have e3 : ((k.toNat : Nat) : Int) = k := by omega
    rw [e1, e2, lookN, e3]; rfl
  have g2 : k = -1 → lookN L n (k + 1).toNat = -1 := fun e => by rw [e]; rfl
  with_reducible repeat' (first | apply And.intro | exact flatI | exact flatS | exact rowLens | (intro; skip) | apply obsN | apply obsC | apply obA | apply obM | apply obB | apply svA | apply tupA | apply lcA | apply lcS | apply svC | apply liC | apply lbC | apply lsC | apply vIc | apply vBc | apply vSc | apply vLc | apply mapC | apply mIc | apply mOc | apply mSc | apply mLc | apply Hc_sLookLa | apply Ec_sLookLa | apply EW1c_sLookLa)
  all_goals (try simp only [std] at *)
  all_goals (try (first | with_reducible rfl | omega | assumption | (refine (decide_eq_true ?_).symm; assumption) | (refine (decide_eq_false ?_).symm; assumption) | (refine rowGet ?_; (first | omega | (simp only [std]; omega) | grind)) | (refine getC ?_ rfl; (first | omega | (simp only [std]; omega) | grind)) | exact look_mI | exact look_mO | exact look_mO1 | exact look_mS | exact look_mL | exact upd_mI | exact upd_mO | exact del_mO | exact upd_mS | exact take_mL | (refine upd_mL ?_; grind) | (refine fill_step ?_ ?_; (first | omega | (simp only [std]; omega) | grind); (first | rfl | exact (Row.eq _).trans rfl)) | (refine fill_init ?_; (first | rfl | exact (Row.eq _).trans rfl)) | (show (_ : St) = _; rfl) | grind [snocI, snocS, rowSnoc]))
theorem run_c_sLook (L : List Int) (n : Int) : aexec Try.prog (Option.getD (Func.body Try.f251) Code.skip) (entry [] [ll (List.map intC L), li n] 20) [Orc.ghost (Ghost.sel [] [0,
 1, 5]), Orc.loop (Int.toNat ((↑(List.length L) : Int) - 1 + 1)) (Lc_sLookLa L n ((↑(List.length L) : Int) - 1)) (Ic_sLookLa L n) [(lookL L n = (-1 : Int), AEx.exit 0, W0c_sLookLa
 L n, [Orc.fin []]), (True, AEx.ret, W1c_sLookLa L n (li (lookL L n)), [Orc.fin []])]] (finK Try.prog [ResultVar.tmp 4] [] (AV.sv (li (lookL L n)))) = (List.length (List.map intC
 L) ≤ 9223372036854775807 → rng IntKind.i64 ((↑(List.length (List.map intC L)) : Int) - 1) ∧ Tc_sLookLa L n (li ((↑(List.length (List.map intC L)) : Int) - 1)) = Lc_sLookLa L n
 ((↑(List.length L) : Int) - 1) ∧ Ic_sLookLa L n (Int.toNat ((↑(List.length L) : Int) - 1 + 1)) (Lc_sLookLa L n ((↑(List.length L) : Int) - 1)) ∧ LoopSem Try.prog (loopAt Try.f251
 0) (Ic_sLookLa L n) (Yc_sLookLa L n) ∧ (lookL L n = (-1 : Int) → ObsEq [] [] ∧ AV.sv (li (-1 : Int)) = AV.sv (li (lookL L n))) ∧ (True → ObsEq [] [] ∧ AV.sv (li (lookL L n)) =
 AV.sv (li (lookL L n))) ∧ True) := by kernel_rfl
theorem c_sLook (L : List Int) (n : Int)  : P_c_sLook L n := by
  refine CallOK.ofRun wide (run_c_sLook L n) Try.call251 Try.func251 rfl rfl rfl ?_
  have g : ((L.length : Int) - 1 + 1).toNat = L.length := by omega
  with_reducible repeat' (first | apply And.intro | exact flatI | exact flatS | exact rowLens | (intro; skip) | apply obsN | apply obsC | apply obA | apply obM | apply obB | apply svA | apply tupA | apply lcA | apply lcS | apply svC | apply liC | apply lbC | apply lsC | apply vIc | apply vBc | apply vSc | apply vLc | apply mapC | apply mIc | apply mOc | apply mSc | apply mLc | apply Hc_sLookLa | apply Ec_sLookLa | apply Sc_sLookLa | apply EW1c_sLookLa)
  all_goals (try simp only [std] at *)
  all_goals (try (first | with_reducible rfl | omega | assumption | (refine (decide_eq_true ?_).symm; assumption) | (refine (decide_eq_false ?_).symm; assumption) | (refine rowGet ?_; (first | omega | (simp only [std]; omega) | grind)) | (refine getC ?_ rfl; (first | omega | (simp only [std]; omega) | grind)) | exact look_mI | exact look_mO | exact look_mO1 | exact look_mS | exact look_mL | exact upd_mI | exact upd_mO | exact del_mO | exact upd_mS | exact take_mL | (refine upd_mL ?_; grind) | (refine fill_step ?_ ?_; (first | omega | (simp only [std]; omega) | grind); (first | rfl | exact (Row.eq _).trans rfl)) | (refine fill_init ?_; (first | rfl | exact (Row.eq _).trans rfl)) | (show (_ : St) = _; rfl) | grind [lookL, snocI, snocS, rowSnoc]))
end Go.Proofs.Ytehpjofddjmbpaa
end
section
namespace Go.Proofs.Ytehpjofddjmbpaa
open Go Go.Proofs.Ytehpjofddjmbpaa.Ab
set_option linter.unusedVariables false
set_option linter.unusedSimpArgs false
set_option maxHeartbeats 4000000
instance memDec (s : ByteArray) (L : List ByteArray) : Decidable (s ∈ L) := @List.instDecidableMemOfLawfulBEq ByteArray instBEqOfDecidableEq _ s L
abbrev P_c_iCopyData (L : List Datum) : Prop := CallOK Try.prog 144 [] [ll (L.map datumC)] [.arr true 4 (L.map datumC)] (.sv (.one (.ref 0)))
abbrev P_c_iCopyDatum (x : Datum) : Prop := CallOK Try.prog 233 [] [datumA x] (datumO x) (.sv (datumR x 0))
def Tc_iCopyDataLa (L : List Datum) (x0 : SV) (x1 : Ob) : St := St.mk (regsOf 19 [(3, AV.sv (SV.one (AC.ref 0))), (6, AV.sv (ll (List.map datumC L))), (7, AV.sv (li (↑(List.length
 (List.map datumC L)) : Int))), (8, AV.sv x0)]) [x1] 0 
def Lc_iCopyDataLa (L : List Datum) (k : Nat) : St := Tc_iCopyDataLa L (li (↑k : Int)) (Ob.arr true 4 (List.map datumC (List.take k L))) 
def Ic_iCopyDataLa (L : List Datum) : Nat → St → Prop := Head (Lc_iCopyDataLa L) (fun k => k ≤ List.length L ∧ List.length L ≤ 9223372036854775807) fun k => List.length L - k 
def W0c_iCopyDataLa (L : List Datum) (x0 : Ob) : St := St.mk (regsOf 19 [(3, AV.sv (SV.one (AC.ref 0)))]) [x0] 0 
def Yc_iCopyDataLa (L : List Datum) : List (Prop × AEx × St) := [(True, AEx.exit 0, W0c_iCopyDataLa L (Ob.arr true 4 (List.map datumC L)))]
theorem Hc_iCopyDataLa {L : List Datum} {k : Nat} {m : Nat} (h : (fun k => k ≤ List.length L ∧ List.length L ≤ 9223372036854775807) k) (hm : (fun k => List.length L - k) k = m) :
 Ic_iCopyDataLa L m (Lc_iCopyDataLa L k) := hm ▸ Head.mk h
theorem Ec_iCopyDataLa {L : List Datum} {k : Nat} {x0 : SV} {x1 : Ob} (h0 : x0 = (li (↑k : Int))) (h1 : x1 = (Ob.arr true 4 (List.map datumC (List.take k L)))) : Tc_iCopyDataLa L
 x0 x1 = Lc_iCopyDataLa L k := by
  rw [h0, h1]
  rfl
theorem EW0c_iCopyDataLa {L : List Datum} {x0 y0 : Ob} (h0 : x0 = y0) : W0c_iCopyDataLa L x0 = W0c_iCopyDataLa L y0 := by rw [h0]
theorem run_c_iCopyDataLa (L : List Datum) (k : Nat) : aexec Try.prog (loopAt Try.f144 0) (Lc_iCopyDataLa L k) [Orc.br [Orc.cells (datumF (List.getD L k default)), Orc.call
 [Mode.rd] (datumO (List.getD L k default)) (AV.sv (datumR (List.getD L k default) 0)), Orc.ghost (Ghost.sel [4] [3, 6, 7, 8]), Orc.goto (List.length L - (k + 1)) (Lc_iCopyDataLa L
 (k + 1))] [Orc.ghost (Ghost.sel [0] [3]), Orc.out 0]] (loopK (Ic_iCopyDataLa L) (Yc_iCopyDataLa L) (List.length L - k)) = ((decide ((↑k : Int) < (↑(List.length (List.map datumC
 L)) : Int)) = true → (0 ≤ (↑k : Int) ∧ (List.map datumC L)[Int.toNat (↑k : Int)]? = some (datumF (List.getD L k default))) ∧ P_c_iCopyDatum (List.getD L k default) ∧ (List.length
 (List.map datumC (List.take k L)) + 1) * 56 ≤ 140737488355328 ∧ rng IntKind.i64 ((↑k : Int) + 1) ∧ List.length L - (k + 1) < List.length L - k ∧ Tc_iCopyDataLa L (li ((↑k : Int) +
 1)) (Ob.arr true 4 (List.map datumC (List.take k L) ++ [datumF (List.getD L k default)])) = Lc_iCopyDataLa L (k + 1) ∧ Ic_iCopyDataLa L (List.length L - (k + 1)) (Lc_iCopyDataLa L
 (k + 1))) ∧ (decide ((↑k : Int) < (↑(List.length (List.map datumC L)) : Int)) = false → True ∧ W0c_iCopyDataLa L (Ob.arr true 4 (List.map datumC (List.take k L))) =
 W0c_iCopyDataLa L (Ob.arr true 4 (List.map datumC L)))) := by kernel_rfl
theorem Sc_iCopyDataLa (L : List Datum) (h : List.length L + sumBy wD L ≤ 1048576) (ih : ∀ (x : Datum), x ∈ L → wD x ≤ 1048576 → P_c_iCopyDatum x)  : LoopSem Try.prog (loopAt
 Try.f144 0) (Ic_iCopyDataLa L) (Yc_iCopyDataLa L) := by
  refine LoopSem.ofHead wide fun k h => ⟨_, _, run_c_iCopyDataLa L k, ?_⟩
  have g := @sumBy_mem _ wD L (L.getD k default)
  with_reducible repeat' (first | apply And.intro | exact flatI | exact flatS | exact rowLens | exact ih | (intro; skip) | apply obsN | apply obsC | apply obA | apply obM | apply obB | apply svA | apply tupA | apply lcA | apply lcS | apply svC | apply liC | apply lbC | apply lsC | apply vIc | apply vBc | apply vSc | apply vLc | apply mapC | apply mIc | apply mOc | apply mSc | apply mLc | apply Hc_iCopyDataLa | apply Ec_iCopyDataLa | apply EW0c_iCopyDataLa | apply ih)
  all_goals (try simp only [std] at *)
  all_goals (try (first | with_reducible apply ih | (simp only [← List.map_append]; first | with_reducible apply ih)))
  all_goals (try (first | with_reducible rfl | omega | assumption | (refine (decide_eq_true ?_).symm; assumption) | (refine (decide_eq_false ?_).symm; assumption) | (refine rowGet ?_; (first | omega | (simp only [std]; omega) | grind)) | (refine getC ?_ rfl; (first | omega | (simp only [std]; omega) | grind)) | exact look_mI | exact look_mO | exact look_mO1 | exact look_mS | exact look_mL | exact upd_mI | exact upd_mO | exact del_mO | exact upd_mS | exact take_mL | (refine upd_mL ?_; grind) | (refine fill_step ?_ ?_; (first | omega | (simp only [std]; omega) | grind); (first | rfl | exact (Row.eq _).trans rfl)) | (refine fill_init ?_; (first | rfl | exact (Row.eq _).trans rfl)) | (show (_ : St) = _; rfl) | grind [take_get, getD_mem', snocI, snocS, rowSnoc, getD_mem']))
theorem run_c_iCopyData (L : List Datum) : aexec Try.prog (Option.getD (Func.body Try.f144) Code.skip) (entry [] [ll (List.map datumC L)] 19) [Orc.ghost (Ghost.nilreg 3 true 4),
 Orc.ghost (Ghost.sel [0] [3, 6, 7, 8]), Orc.loop (List.length L - 0) (Lc_iCopyDataLa L 0) (Ic_iCopyDataLa L) [(True, AEx.exit 0, W0c_iCopyDataLa L (Ob.arr true 4 (List.map datumC
 L)), [Orc.fin [0]])]] (finK Try.prog [ResultVar.tmp 2] [Ob.arr true 4 (List.map datumC L)] (AV.sv (SV.one (AC.ref 0)))) = (List.length (List.map datumC L) ≤ 9223372036854775807 →
 Tc_iCopyDataLa L (li 0) (Ob.arr true 4 []) = Lc_iCopyDataLa L 0 ∧ Ic_iCopyDataLa L (List.length L - 0) (Lc_iCopyDataLa L 0) ∧ LoopSem Try.prog (loopAt Try.f144 0) (Ic_iCopyDataLa
 L) (Yc_iCopyDataLa L) ∧ (True → ObsEq [Ob.arr true 4 (List.map datumC L)] [Ob.arr true 4 (List.map datumC L)] ∧ AV.sv (SV.one (AC.ref 0)) = AV.sv (SV.one (AC.ref 0))) ∧ True) :=
 by kernel_rfl
theorem c_iCopyData (L : List Datum) (h : L.length + sumBy wD L ≤ 1048576) (ih : ∀ x ∈ L, ∀ (h : wD x ≤ 1048576), P_c_iCopyDatum x)  : P_c_iCopyData L := by
  refine CallOK.ofRun wide (run_c_iCopyData L) Try.call144 Try.func144 rfl rfl rfl ?_
  with_reducible repeat' (first | apply And.intro | exact flatI | exact flatS | exact rowLens | exact ih | (intro; skip) | apply obsN | apply obsC | apply obA | apply obM | apply obB | apply svA | apply tupA | apply lcA | apply lcS | apply svC | apply liC | apply lbC | apply lsC | apply vIc | apply vBc | apply vSc | apply vLc | apply mapC | apply mIc | apply mOc | apply mSc | apply mLc | apply Hc_iCopyDataLa | apply Ec_iCopyDataLa | apply Sc_iCopyDataLa | apply EW0c_iCopyDataLa)
  all_goals (try simp only [std] at *)
  all_goals (try (first | with_reducible apply ih | (simp only [← List.map_append]; first | with_reducible apply ih)))
  all_goals (try (first | with_reducible rfl | omega | assumption | (refine (decide_eq_true ?_).symm; assumption) | (refine (decide_eq_false ?_).symm; assumption) | (refine rowGet ?_; (first | omega | (simp only [std]; omega) | grind)) | (refine getC ?_ rfl; (first | omega | (simp only [std]; omega) | grind)) | exact look_mI | exact look_mO | exact look_mO1 | exact look_mS | exact look_mL | exact upd_mI | exact upd_mO | exact del_mO | exact upd_mS | exact take_mL | (refine upd_mL ?_; grind) | (refine fill_step ?_ ?_; (first | omega | (simp only [std]; omega) | grind); (first | rfl | exact (Row.eq _).trans rfl)) | (refine fill_init ?_; (first | rfl | exact (Row.eq _).trans rfl)) | (show (_ : St) = _; rfl) | grind [snocI, snocS, rowSnoc]))
theorem run_c_iCopyDatum_s (x : Datum) : aexec Try.prog (Option.getD (Func.body Try.f233) Code.skip) (entry [] [datumA x] 8) [Orc.call [Mode.rd] [Ob.arr true 4 (List.map datumC
 (Datum.items x))] (AV.sv (SV.one (AC.ref 0))), Orc.fin [2]] (finK Try.prog [ResultVar.cell 2 66] (datumO x) (AV.sv (datumR x 0))) = (P_c_iCopyData (Datum.items x) ∧ ObsEq [Ob.arr
 true 4 (List.map datumC (Datum.items x))] [Ob.arr true 4 (List.map datumC (Datum.items x))] ∧ AV.sv (SV.agg [vI (Datum.kind x), vI (Datum.number x), vS (Datum.text x), AC.ref 0])
 = AV.sv (SV.agg [vI (Datum.kind x), vI (Datum.number x), vS (Datum.text x), AC.ref 0])) := by kernel_rfl
theorem c_iCopyDatum_s (x : Datum) (h : wD x ≤ 1048576) (ih : ∀ z ∈ x.items, ∀ (h : wD z ≤ 1048576), P_c_iCopyDatum z)  : P_c_iCopyDatum x := by
  refine CallOK.ofRun wide (run_c_iCopyDatum_s x) Try.call233 Try.func233 rfl rfl rfl ?_
  have g := wD_eq x
  with_reducible repeat' (first | apply And.intro | exact flatI | exact flatS | exact rowLens | exact ih | (intro; skip) | apply obsN | apply obsC | apply obA | apply obM | apply obB | apply svA | apply tupA | apply lcA | apply lcS | apply svC | apply liC | apply lbC | apply lsC | apply vIc | apply vBc | apply vSc | apply vLc | apply mapC | apply mIc | apply mOc | apply mSc | apply mLc | apply c_iCopyData | apply ih)
  all_goals (try simp only [std] at *)
  all_goals (try (first | with_reducible apply c_iCopyData | with_reducible apply ih | (simp only [← List.map_append]; first | with_reducible apply c_iCopyData | with_reducible apply ih)))
  all_goals (try (first | with_reducible rfl | omega | assumption | (refine (decide_eq_true ?_).symm; assumption) | (refine (decide_eq_false ?_).symm; assumption) | (refine rowGet ?_; (first | omega | (simp only [std]; omega) | grind)) | (refine getC ?_ rfl; (first | omega | (simp only [std]; omega) | grind)) | exact look_mI | exact look_mO | exact look_mO1 | exact look_mS | exact look_mL | exact upd_mI | exact upd_mO | exact del_mO | exact upd_mS | exact take_mL | (refine upd_mL ?_; grind) | (refine fill_step ?_ ?_; (first | omega | (simp only [std]; omega) | grind); (first | rfl | exact (Row.eq _).trans rfl)) | (refine fill_init ?_; (first | rfl | exact (Row.eq _).trans rfl)) | (show (_ : St) = _; rfl) | grind [snocI, snocS, rowSnoc]))
theorem c_iCopyDatum (x : Datum) : ∀ (h : wD x ≤ 1048576), P_c_iCopyDatum x := Datum.ind (P := fun x => ∀ (h : wD x ≤ 1048576), P_c_iCopyDatum x) (fun x ih h => c_iCopyDatum_s x h ih) x
end Go.Proofs.Ytehpjofddjmbpaa
end
