/- Part 3 of the proof: The law FnExactRenumberCore holds: RenumberCore answers as the reference's does. No condition. -/
import Derived.Test.YtehpjofddjmbpaaRn2
section
namespace Go.Proofs.Ytehpjofddjmbpaa
open Go Go.Proofs.Ytehpjofddjmbpaa.Ab
set_option linter.unusedVariables false
set_option linter.unusedSimpArgs false
set_option maxHeartbeats 4000000
mutual
/-- other numbers for the variables -/
def ren (f : Int → Option Int) : Core → Core
  | ⟨k, n, p, d, l⟩ => ⟨k, if k = 2 ∨ k = 4 then (f n).getD n else n, p.map fun x => (f x).getD x, d, rens f l⟩
def rens (f : Int → Option Int) : List Core → List Core
  | [] => []
  | x :: r => ren f x :: rens f r
end
theorem rens_eq (f : Int → Option Int) : ∀ l, rens f l = l.map (ren f)
  | [] => by rw [rens]; rfl
  | x :: r => by rw [rens, rens_eq f r]; rfl
def rnN (f : Int → Option Int) (c : Core) : Int := if c.kind = 2 ∨ c.kind = 4 then (f c.number).getD c.number else c.number
def rnP (f : Int → Option Int) (x : Int) : Int := (f x).getD x
theorem ren_eq (f : Int → Option Int) (c : Core) : ren f c = ⟨c.kind, rnN f c, c.params.map (rnP f), c.datum, c.kids.map (ren f)⟩ := by cases c; simp only [ren, rens_eq, rnN]; rfl
def mapTo {α : Type} (g : α → α) (L : List α) (k : Nat) : List α := (L.take k).map g ++ L.drop k
theorem mapTo_zero {α : Type} (g : α → α) (L : List α) : mapTo g L 0 = L := by simp [mapTo]
theorem mapTo_all {α : Type} (g : α → α) (L : List α) {k : Nat} (h : L.length ≤ k) : mapTo g L k = L.map g := by simp [mapTo, List.take_of_length_le h, List.drop_eq_nil_of_le h]
theorem mapTo_len {α : Type} (g : α → α) (L : List α) (k : Nat) : (mapTo g L k).length = L.length := by simp [mapTo]; omega
theorem mapTo_get {g : Int → Int} {L : List Int} {k : Nat} (h : k < L.length) : (mapTo g L k).getD k 0 = L.getD k 0 := by
  unfold mapTo
  rw [List.getD_eq_getElem?_getD, List.getElem?_append_right (by simp; omega)]
  have : k - ((L.take k).map g).length = 0 := by simp; omega
  rw [this]; simp [List.getElem?_drop]
theorem mapTo_set {α : Type} [Inhabited α] {g : α → α} {L : List α} {k : Nat} (h : k < L.length) : (mapTo g L k).set k (g (L.getD k default)) = mapTo g L (k + 1) := by
  unfold mapTo
  rw [take_get h, drop_get h, List.set_append_right _ _ (by simp; omega)]
  have : k - ((L.take k).map g).length = 0 := by simp; omega
  rw [this]; simp
theorem mapTo_same {g : Int → Int} {L : List Int} {k : Nat} (h : k < L.length) (e : g (L.getD k 0) = L.getD k 0) : mapTo g L (k + 1) = mapTo g L k := by
  rw [← mapTo_set h]
  have e' : g (L.getD k default) = (mapTo g L k).getD k 0 := by rw [mapTo_get h]; exact e
  rw [e']
  apply List.ext_getElem?
  intro i
  rw [List.getElem?_set]
  split
  · rename_i e2; subst e2; split
    · rename_i h2; simp [h2]
    · rename_i h2; rw [mapTo_len] at h2; exact absurd h h2
  · rfl
theorem setI {L : List Int} {k : Nat} {x : Int} : (L.map intC).set k [cI x] = (L.set k x).map intC := by rw [List.map_set]; rfl
theorem setC {L : List Core} {k : Nat} {x : Core} : (L.map coreC).set k (coreF x) = (L.set k x).map coreC := by rw [List.map_set, coreC_eq]
def fT (F T : List Int) (n : Int) : Option Int := if 0 ≤ lookL F n then some (T.getD (lookL F n).toNat 0) else none
theorem bnd_par {c : Core} {k : Nat} (h : k < c.params.length) : c.params.getD k 0 ∈ bnd c := by
  rw [bnd_eq]; exact List.mem_append_left _ (getD_mem' h)
theorem bnd_kid {c x : Core} (hx : x ∈ c.kids) : ∀ n ∈ bnd x, n ∈ bnd c := by
  intro n hn; rw [bnd_eq]; exact List.mem_append_right _ (List.mem_flatMap.2 ⟨x, hx, hn⟩)
abbrev P_c_sCopyD (x : Datum) : Prop := CallOK Try.prog 141 [] [datumA x] (datumO x) (.sv (datumR x 0))
def Tc_sCopyD_sLa (x : Datum) (x0 : SV) (x1 : Ob) : St := St.mk (regsOf 29 [(2, AV.sv (SV.one (AC.ptr 0 0))), (3, AV.sv (SV.one (AC.ptr 1 0))), (14, AV.sv (ll (List.map datumC
 (Datum.items x)))), (15, AV.sv (li (↑(List.length (List.map datumC (Datum.items x))) : Int))), (16, AV.sv x0)]) [Ob.box [vI 0, vI 0, vS (ByteArray.mk #[]), AC.val (Cell.lit
 (Value.slice none 0 0))], Ob.box [vI (Datum.kind x), vI (Datum.number x), vS (Datum.text x), AC.ref 2], x1] 0 
def Lc_sCopyD_sLa (x : Datum) (k : Nat) : St := Tc_sCopyD_sLa x (li (↑k : Int)) (Ob.arr true 4 (List.map datumC (List.take k (Datum.items x)))) 
def Ic_sCopyD_sLa (x : Datum) : Nat → St → Prop := Head (Lc_sCopyD_sLa x) (fun k => k ≤ List.length (Datum.items x) ∧ List.length (Datum.items x) ≤ 9223372036854775807) fun k =>
 List.length (Datum.items x) - k 
def W0c_sCopyD_sLa (x : Datum) (x0 : Ob) : St := St.mk (regsOf 29 [(2, AV.sv (SV.one (AC.ptr 0 0))), (3, AV.sv (SV.one (AC.ptr 1 0)))]) [Ob.box [vI 0, vI 0, vS (ByteArray.mk #[]),
 AC.val (Cell.lit (Value.slice none 0 0))], Ob.box [vI (Datum.kind x), vI (Datum.number x), vS (Datum.text x), AC.ref 2], x0] 0 
def Yc_sCopyD_sLa (x : Datum) : List (Prop × AEx × St) := [(True, AEx.exit 0, W0c_sCopyD_sLa x (Ob.arr true 4 (List.map datumC (Datum.items x))))]
theorem Hc_sCopyD_sLa {x : Datum} {k : Nat} {m : Nat} (h : (fun k => k ≤ List.length (Datum.items x) ∧ List.length (Datum.items x) ≤ 9223372036854775807) k) (hm : (fun k =>
 List.length (Datum.items x) - k) k = m) : Ic_sCopyD_sLa x m (Lc_sCopyD_sLa x k) := hm ▸ Head.mk h
theorem Ec_sCopyD_sLa {x : Datum} {k : Nat} {x0 : SV} {x1 : Ob} (h0 : x0 = (li (↑k : Int))) (h1 : x1 = (Ob.arr true 4 (List.map datumC (List.take k (Datum.items x))))) :
 Tc_sCopyD_sLa x x0 x1 = Lc_sCopyD_sLa x k := by
  rw [h0, h1]
  rfl
theorem EW0c_sCopyD_sLa {x : Datum} {x0 y0 : Ob} (h0 : x0 = y0) : W0c_sCopyD_sLa x x0 = W0c_sCopyD_sLa x y0 := by rw [h0]
theorem run_c_sCopyD_sLa (x : Datum) (k : Nat) : aexec Try.prog (loopAt Try.f141 0) (Lc_sCopyD_sLa x k) [Orc.br [Orc.cells (datumF (List.getD (Datum.items x) k default)), Orc.draw
 [(4, [4]), (5, [2, 12]), (7, [1])], Orc.call [Mode.rd] (datumO (List.getD (Datum.items x) k default)) (AV.sv (datumR (List.getD (Datum.items x) k default) 0)), Orc.ghost
 (Ghost.sel [0, 1, 13] [2, 3, 14, 15, 16]), Orc.goto (List.length (Datum.items x) - (k + 1)) (Lc_sCopyD_sLa x (k + 1))] [Orc.ghost (Ghost.sel [0, 1, 2] [2, 3]), Orc.out 0]] (loopK
 (Ic_sCopyD_sLa x) (Yc_sCopyD_sLa x) (List.length (Datum.items x) - k)) = ((decide ((↑k : Int) < (↑(List.length (List.map datumC (Datum.items x))) : Int)) = true → (0 ≤ (↑k : Int)
 ∧ (List.map datumC (Datum.items x))[Int.toNat (↑k : Int)]? = some (datumF (List.getD (Datum.items x) k default))) ∧ P_c_sCopyD (List.getD (Datum.items x) k default) ∧ (List.length
 (List.map datumC (List.take k (Datum.items x))) + 1) * 56 ≤ 140737488355328 ∧ rng IntKind.i64 ((↑k : Int) + 1) ∧ List.length (Datum.items x) - (k + 1) < List.length (Datum.items
 x) - k ∧ Tc_sCopyD_sLa x (li ((↑k : Int) + 1)) (Ob.arr true 4 (List.map datumC (List.take k (Datum.items x)) ++ [datumF (List.getD (Datum.items x) k default)])) = Lc_sCopyD_sLa x
 (k + 1) ∧ Ic_sCopyD_sLa x (List.length (Datum.items x) - (k + 1)) (Lc_sCopyD_sLa x (k + 1))) ∧ (decide ((↑k : Int) < (↑(List.length (List.map datumC (Datum.items x))) : Int)) =
 false → True ∧ W0c_sCopyD_sLa x (Ob.arr true 4 (List.map datumC (List.take k (Datum.items x)))) = W0c_sCopyD_sLa x (Ob.arr true 4 (List.map datumC (Datum.items x))))) := by
 kernel_rfl
theorem Sc_sCopyD_sLa (x : Datum) (h : wD x ≤ 1048576) (ih : ∀ (z : Datum), z ∈ Datum.items x → wD z ≤ 1048576 → P_c_sCopyD z)  : LoopSem Try.prog (loopAt Try.f141 0)
 (Ic_sCopyD_sLa x) (Yc_sCopyD_sLa x) := by
  refine LoopSem.ofHead wide fun k h => ⟨_, _, run_c_sCopyD_sLa x k, ?_⟩
  have g1 := wD_eq x
  have g2 := @sumBy_mem _ wD x.items (x.items.getD k default)
  with_reducible repeat' (first | apply And.intro | exact flatI | exact flatS | exact rowLens | exact ih | (intro; skip) | apply obsN | apply obsC | apply obA | apply obM | apply obB | apply svA | apply tupA | apply lcA | apply lcS | apply svC | apply liC | apply lbC | apply lsC | apply vIc | apply vBc | apply vSc | apply vLc | apply mapC | apply mIc | apply mOc | apply mSc | apply mLc | apply Hc_sCopyD_sLa | apply Ec_sCopyD_sLa | apply EW0c_sCopyD_sLa | apply ih)
  all_goals (try simp only [std] at *)
  all_goals (try (first | with_reducible apply ih | (simp only [← List.map_append]; first | with_reducible apply ih)))
  all_goals (try (first | with_reducible rfl | omega | assumption | (refine (decide_eq_true ?_).symm; assumption) | (refine (decide_eq_false ?_).symm; assumption) | (refine rowGet ?_; (first | omega | (simp only [std]; omega) | grind)) | (refine getC ?_ rfl; (first | omega | (simp only [std]; omega) | grind)) | exact look_mI | exact look_mO | exact look_mO1 | exact look_mS | exact look_mL | exact upd_mI | exact upd_mO | exact del_mO | exact upd_mS | exact take_mL | (refine upd_mL ?_; grind) | (refine fill_step ?_ ?_; (first | omega | (simp only [std]; omega) | grind); (first | rfl | exact (Row.eq _).trans rfl)) | (refine fill_init ?_; (first | rfl | exact (Row.eq _).trans rfl)) | (show (_ : St) = _; rfl) | grind [take_get, getD_mem', snocI, snocS, rowSnoc, getD_mem']))
theorem run_c_sCopyD_s (x : Datum) : aexec Try.prog (Option.getD (Func.body Try.f141) Code.skip) (entry [] [datumA x] 29) [Orc.ghost (Ghost.nilbox 2 3 true 4), Orc.ghost (Ghost.sel
 [1, 2, 3] [2, 3, 14, 15, 16]), Orc.loop (List.length (Datum.items x) - 0) (Lc_sCopyD_sLa x 0) (Ic_sCopyD_sLa x) [(True, AEx.exit 0, W0c_sCopyD_sLa x (Ob.arr true 4 (List.map
 datumC (Datum.items x))), [Orc.fin [2]])]] (finK Try.prog [ResultVar.cell 2 66] (datumO x) (AV.sv (datumR x 0))) = (List.length (List.map datumC (Datum.items x)) ≤
 9223372036854775807 → Tc_sCopyD_sLa x (li 0) (Ob.arr true 4 []) = Lc_sCopyD_sLa x 0 ∧ Ic_sCopyD_sLa x (List.length (Datum.items x) - 0) (Lc_sCopyD_sLa x 0) ∧ LoopSem Try.prog
 (loopAt Try.f141 0) (Ic_sCopyD_sLa x) (Yc_sCopyD_sLa x) ∧ (True → ObsEq [Ob.arr true 4 (List.map datumC (Datum.items x))] [Ob.arr true 4 (List.map datumC (Datum.items x))] ∧ AV.sv
 (SV.agg [vI (Datum.kind x), vI (Datum.number x), vS (Datum.text x), AC.ref 0]) = AV.sv (SV.agg [vI (Datum.kind x), vI (Datum.number x), vS (Datum.text x), AC.ref 0])) ∧ True) :=
 by kernel_rfl
theorem c_sCopyD_s (x : Datum) (h : wD x ≤ 1048576) (ih : ∀ z ∈ x.items, ∀ (h : wD z ≤ 1048576), P_c_sCopyD z)  : P_c_sCopyD x := by
  refine CallOK.ofRun wide (run_c_sCopyD_s x) Try.call141 Try.func141 rfl rfl rfl ?_
  with_reducible repeat' (first | apply And.intro | exact flatI | exact flatS | exact rowLens | exact ih | (intro; skip) | apply obsN | apply obsC | apply obA | apply obM | apply obB | apply svA | apply tupA | apply lcA | apply lcS | apply svC | apply liC | apply lbC | apply lsC | apply vIc | apply vBc | apply vSc | apply vLc | apply mapC | apply mIc | apply mOc | apply mSc | apply mLc | apply Hc_sCopyD_sLa | apply Ec_sCopyD_sLa | apply Sc_sCopyD_sLa | apply EW0c_sCopyD_sLa)
  all_goals (try simp only [std] at *)
  all_goals (try (first | with_reducible apply ih | (simp only [← List.map_append]; first | with_reducible apply ih)))
  all_goals (try (first | with_reducible rfl | omega | assumption | (refine (decide_eq_true ?_).symm; assumption) | (refine (decide_eq_false ?_).symm; assumption) | (refine rowGet ?_; (first | omega | (simp only [std]; omega) | grind)) | (refine getC ?_ rfl; (first | omega | (simp only [std]; omega) | grind)) | exact look_mI | exact look_mO | exact look_mO1 | exact look_mS | exact look_mL | exact upd_mI | exact upd_mO | exact del_mO | exact upd_mS | exact take_mL | (refine upd_mL ?_; grind) | (refine fill_step ?_ ?_; (first | omega | (simp only [std]; omega) | grind); (first | rfl | exact (Row.eq _).trans rfl)) | (refine fill_init ?_; (first | rfl | exact (Row.eq _).trans rfl)) | (show (_ : St) = _; rfl) | grind [snocI, snocS, rowSnoc]))
theorem c_sCopyD (x : Datum) : ∀ (h : wD x ≤ 1048576), P_c_sCopyD x := Datum.ind (P := fun x => ∀ (h : wD x ≤ 1048576), P_c_sCopyD x) (fun x ih h => c_sCopyD_s x h ih) x
abbrev P_c_sCopyC (c : Core) : Prop := CallOK Try.prog 205 [] [coreA c] (coreO c) (.sv (coreR c 0))
def Tc_sCopyC_sLa (c : Core) (x0 : SV) (x1 : Ob) : St := St.mk (regsOf 33 [(2, AV.sv (SV.one (AC.ptr 0 0))), (3, AV.sv (SV.one (AC.ptr 1 0))), (18, AV.sv (ll (List.map coreC
 (Core.kids c)))), (19, AV.sv (li (↑(List.length (List.map coreC (Core.kids c))) : Int))), (20, AV.sv x0)]) [Ob.box [vI 0, vI 0, AC.val (Cell.lit (Value.slice none 0 0)), vI 0, vI
 0, vS (ByteArray.mk #[]), AC.val (Cell.lit (Value.slice none 0 0)), AC.val (Cell.lit (Value.slice none 0 0))], Ob.box [vI (Core.kind c), vI (Core.number c), AC.ref 2, vI
 (Datum.kind (Core.datum c)), vI (Datum.number (Core.datum c)), vS (Datum.text (Core.datum c)), AC.ref 3, AC.ref 4], Ob.arr true 1 (List.map intC (Core.params c)), Ob.arr true 4
 (List.map datumC (Datum.items (Core.datum c))), x1] 0 
def Lc_sCopyC_sLa (c : Core) (k : Nat) : St := Tc_sCopyC_sLa c (li (↑k : Int)) (Ob.arr true 8 (List.map coreC (List.take k (Core.kids c)))) 
def Ic_sCopyC_sLa (c : Core) : Nat → St → Prop := Head (Lc_sCopyC_sLa c) (fun k => k ≤ List.length (Core.kids c) ∧ List.length (Core.kids c) ≤ 9223372036854775807) fun k =>
 List.length (Core.kids c) - k 
def W0c_sCopyC_sLa (c : Core) (x0 : Ob) : St := St.mk (regsOf 33 [(2, AV.sv (SV.one (AC.ptr 0 0))), (3, AV.sv (SV.one (AC.ptr 1 0)))]) [Ob.box [vI 0, vI 0, AC.val (Cell.lit
 (Value.slice none 0 0)), vI 0, vI 0, vS (ByteArray.mk #[]), AC.val (Cell.lit (Value.slice none 0 0)), AC.val (Cell.lit (Value.slice none 0 0))], Ob.box [vI (Core.kind c), vI
 (Core.number c), AC.ref 2, vI (Datum.kind (Core.datum c)), vI (Datum.number (Core.datum c)), vS (Datum.text (Core.datum c)), AC.ref 3, AC.ref 4], Ob.arr true 1 (List.map intC
 (Core.params c)), Ob.arr true 4 (List.map datumC (Datum.items (Core.datum c))), x0] 0 
def Yc_sCopyC_sLa (c : Core) : List (Prop × AEx × St) := [(True, AEx.exit 0, W0c_sCopyC_sLa c (Ob.arr true 8 (List.map coreC (Core.kids c))))]
theorem Hc_sCopyC_sLa {c : Core} {k : Nat} {m : Nat} (h : (fun k => k ≤ List.length (Core.kids c) ∧ List.length (Core.kids c) ≤ 9223372036854775807) k) (hm : (fun k => List.length
 (Core.kids c) - k) k = m) : Ic_sCopyC_sLa c m (Lc_sCopyC_sLa c k) := hm ▸ Head.mk h
theorem Ec_sCopyC_sLa {c : Core} {k : Nat} {x0 : SV} {x1 : Ob} (h0 : x0 = (li (↑k : Int))) (h1 : x1 = (Ob.arr true 8 (List.map coreC (List.take k (Core.kids c))))) : Tc_sCopyC_sLa
 c x0 x1 = Lc_sCopyC_sLa c k := by
  rw [h0, h1]
  rfl
theorem EW0c_sCopyC_sLa {c : Core} {x0 y0 : Ob} (h0 : x0 = y0) : W0c_sCopyC_sLa c x0 = W0c_sCopyC_sLa c y0 := by rw [h0]
theorem run_c_sCopyC_sLa (c : Core) (k : Nat) : aexec Try.prog (loopAt Try.f205 0) (Lc_sCopyC_sLa c k) [Orc.br [Orc.cells (coreF (List.getD (Core.kids c) k default)), Orc.draw [(4,
 [6, 7, 8]), (5, [4, 14]), (7, [1])], Orc.call [Mode.rd] (coreO (List.getD (Core.kids c) k default)) (AV.sv (coreR (List.getD (Core.kids c) k default) 0)), Orc.ghost (Ghost.sel [0,
 1, 2, 3, 15] [2, 3, 18, 19, 20]), Orc.goto (List.length (Core.kids c) - (k + 1)) (Lc_sCopyC_sLa c (k + 1))] [Orc.ghost (Ghost.sel [0, 1, 2, 3, 4] [2, 3]), Orc.out 0]] (loopK
 (Ic_sCopyC_sLa c) (Yc_sCopyC_sLa c) (List.length (Core.kids c) - k)) = ((decide ((↑k : Int) < (↑(List.length (List.map coreC (Core.kids c))) : Int)) = true → (0 ≤ (↑k : Int) ∧
 (List.map coreC (Core.kids c))[Int.toNat (↑k : Int)]? = some (coreF (List.getD (Core.kids c) k default))) ∧ P_c_sCopyC (List.getD (Core.kids c) k default) ∧ (List.length (List.map
 coreC (List.take k (Core.kids c))) + 1) * 120 ≤ 140737488355328 ∧ rng IntKind.i64 ((↑k : Int) + 1) ∧ List.length (Core.kids c) - (k + 1) < List.length (Core.kids c) - k ∧
 Tc_sCopyC_sLa c (li ((↑k : Int) + 1)) (Ob.arr true 8 (List.map coreC (List.take k (Core.kids c)) ++ [coreF (List.getD (Core.kids c) k default)])) = Lc_sCopyC_sLa c (k + 1) ∧
 Ic_sCopyC_sLa c (List.length (Core.kids c) - (k + 1)) (Lc_sCopyC_sLa c (k + 1))) ∧ (decide ((↑k : Int) < (↑(List.length (List.map coreC (Core.kids c))) : Int)) = false → True ∧
 W0c_sCopyC_sLa c (Ob.arr true 8 (List.map coreC (List.take k (Core.kids c)))) = W0c_sCopyC_sLa c (Ob.arr true 8 (List.map coreC (Core.kids c))))) := by kernel_rfl
theorem Sc_sCopyC_sLa (c : Core) (h : wC c ≤ 1048576) (ih : ∀ (z : Core), z ∈ Core.kids c → wC z ≤ 1048576 → P_c_sCopyC z)  : LoopSem Try.prog (loopAt Try.f205 0) (Ic_sCopyC_sLa c)
 (Yc_sCopyC_sLa c) := by
  refine LoopSem.ofHead wide fun k h => ⟨_, _, run_c_sCopyC_sLa c k, ?_⟩
  have g1 := wC_eq c
  have g2 := @sumBy_mem _ wC c.kids (c.kids.getD k default)
  with_reducible repeat' (first | apply And.intro | exact flatI | exact flatS | exact rowLens | exact ih | (intro; skip) | apply obsN | apply obsC | apply obA | apply obM | apply obB | apply svA | apply tupA | apply lcA | apply lcS | apply svC | apply liC | apply lbC | apply lsC | apply vIc | apply vBc | apply vSc | apply vLc | apply mapC | apply mIc | apply mOc | apply mSc | apply mLc | apply Hc_sCopyC_sLa | apply Ec_sCopyC_sLa | apply EW0c_sCopyC_sLa | apply c_l2Ints | apply c_sCopyD | apply ih)
  all_goals (try simp only [std] at *)
  all_goals (try (first | with_reducible apply c_l2Ints | with_reducible apply c_sCopyD | with_reducible apply ih | (simp only [← List.map_append]; first | with_reducible apply c_l2Ints | with_reducible apply c_sCopyD | with_reducible apply ih)))
  all_goals (try (first | with_reducible rfl | omega | assumption | (refine (decide_eq_true ?_).symm; assumption) | (refine (decide_eq_false ?_).symm; assumption) | (refine rowGet ?_; (first | omega | (simp only [std]; omega) | grind)) | (refine getC ?_ rfl; (first | omega | (simp only [std]; omega) | grind)) | exact look_mI | exact look_mO | exact look_mO1 | exact look_mS | exact look_mL | exact upd_mI | exact upd_mO | exact del_mO | exact upd_mS | exact take_mL | (refine upd_mL ?_; grind) | (refine fill_step ?_ ?_; (first | omega | (simp only [std]; omega) | grind); (first | rfl | exact (Row.eq _).trans rfl)) | (refine fill_init ?_; (first | rfl | exact (Row.eq _).trans rfl)) | (show (_ : St) = _; rfl) | grind [take_get, getD_mem', snocI, snocS, rowSnoc, getD_mem']))
theorem run_c_sCopyC_s (c : Core) : aexec Try.prog (Option.getD (Func.body Try.f205) Code.skip) (entry [] [coreA c] 33) [Orc.draw [(12, [18])], Orc.call [Mode.rd] [Ob.arr true 1
 (List.map intC (Core.params c))] (AV.sv (SV.one (AC.ref 0))), Orc.call [Mode.rd] (datumO (Core.datum c)) (AV.sv (datumR (Core.datum c) 0)), Orc.ghost (Ghost.nilbox 18 7 true 8),
 Orc.ghost (Ghost.sel [1, 18, 2, 10, 19] [2, 3, 18, 19, 20]), Orc.loop (List.length (Core.kids c) - 0) (Lc_sCopyC_sLa c 0) (Ic_sCopyC_sLa c) [(True, AEx.exit 0, W0c_sCopyC_sLa c
 (Ob.arr true 8 (List.map coreC (Core.kids c))), [Orc.fin [2, 3, 4]])]] (finK Try.prog [ResultVar.cell 2 95] (coreO c) (AV.sv (coreR c 0))) = (P_c_l2Ints (Core.params c) ∧
 P_c_sCopyD (Core.datum c) ∧ (List.length (List.map coreC (Core.kids c)) ≤ 9223372036854775807 → Tc_sCopyC_sLa c (li 0) (Ob.arr true 8 []) = Lc_sCopyC_sLa c 0 ∧ Ic_sCopyC_sLa c
 (List.length (Core.kids c) - 0) (Lc_sCopyC_sLa c 0) ∧ LoopSem Try.prog (loopAt Try.f205 0) (Ic_sCopyC_sLa c) (Yc_sCopyC_sLa c) ∧ (True → ObsEq [Ob.arr true 1 (List.map intC
 (Core.params c)), Ob.arr true 4 (List.map datumC (Datum.items (Core.datum c))), Ob.arr true 8 (List.map coreC (Core.kids c))] [Ob.arr true 1 (List.map intC (Core.params c)),
 Ob.arr true 4 (List.map datumC (Datum.items (Core.datum c))), Ob.arr true 8 (List.map coreC (Core.kids c))] ∧ AV.sv (SV.agg [vI (Core.kind c), vI (Core.number c), AC.ref 0, vI
 (Datum.kind (Core.datum c)), vI (Datum.number (Core.datum c)), vS (Datum.text (Core.datum c)), AC.ref 1, AC.ref 2]) = AV.sv (SV.agg [vI (Core.kind c), vI (Core.number c), AC.ref
 0, vI (Datum.kind (Core.datum c)), vI (Datum.number (Core.datum c)), vS (Datum.text (Core.datum c)), AC.ref 1, AC.ref 2])) ∧ True)) := by kernel_rfl
theorem c_sCopyC_s (c : Core) (h : wC c ≤ 1048576) (ih : ∀ z ∈ c.kids, ∀ (h : wC z ≤ 1048576), P_c_sCopyC z)  : P_c_sCopyC c := by
  refine CallOK.ofRun wide (run_c_sCopyC_s c) Try.call205 Try.func205 rfl rfl rfl ?_
  have g1 := wC_eq c
  with_reducible repeat' (first | apply And.intro | exact flatI | exact flatS | exact rowLens | exact ih | (intro; skip) | apply obsN | apply obsC | apply obA | apply obM | apply obB | apply svA | apply tupA | apply lcA | apply lcS | apply svC | apply liC | apply lbC | apply lsC | apply vIc | apply vBc | apply vSc | apply vLc | apply mapC | apply mIc | apply mOc | apply mSc | apply mLc | apply Hc_sCopyC_sLa | apply Ec_sCopyC_sLa | apply Sc_sCopyC_sLa | apply EW0c_sCopyC_sLa | apply c_l2Ints | apply c_sCopyD)
  all_goals (try simp only [std] at *)
  all_goals (try (first | with_reducible apply c_l2Ints | with_reducible apply c_sCopyD | with_reducible apply ih | (simp only [← List.map_append]; first | with_reducible apply c_l2Ints | with_reducible apply c_sCopyD | with_reducible apply ih)))
  all_goals (try (first | with_reducible rfl | omega | assumption | (refine (decide_eq_true ?_).symm; assumption) | (refine (decide_eq_false ?_).symm; assumption) | (refine rowGet ?_; (first | omega | (simp only [std]; omega) | grind)) | (refine getC ?_ rfl; (first | omega | (simp only [std]; omega) | grind)) | exact look_mI | exact look_mO | exact look_mO1 | exact look_mS | exact look_mL | exact upd_mI | exact upd_mO | exact del_mO | exact upd_mS | exact take_mL | (refine upd_mL ?_; grind) | (refine fill_step ?_ ?_; (first | omega | (simp only [std]; omega) | grind); (first | rfl | exact (Row.eq _).trans rfl)) | (refine fill_init ?_; (first | rfl | exact (Row.eq _).trans rfl)) | (show (_ : St) = _; rfl) | grind [snocI, snocS, rowSnoc]))
theorem c_sCopyC (c : Core) : ∀ (h : wC c ≤ 1048576), P_c_sCopyC c := Core.ind (P := fun c => ∀ (h : wC c ≤ 1048576), P_c_sCopyC c) (fun c ih h => c_sCopyC_s c h ih) c
abbrev P_c_iCopyC (c : Core) : Prop := CallOK Try.prog 207 [] [coreA c] (coreO c) (.sv (coreR c 0))
def Tc_iCopyC_sLa (c : Core) (x0 : SV) (x1 : Ob) : St := St.mk (regsOf 33 [(2, AV.sv (SV.one (AC.ptr 0 0))), (3, AV.sv (SV.one (AC.ptr 1 0))), (18, AV.sv (ll (List.map coreC
 (Core.kids c)))), (19, AV.sv (li (↑(List.length (List.map coreC (Core.kids c))) : Int))), (20, AV.sv x0)]) [Ob.box [vI 0, vI 0, AC.val (Cell.lit (Value.slice none 0 0)), vI 0, vI
 0, vS (ByteArray.mk #[]), AC.val (Cell.lit (Value.slice none 0 0)), AC.val (Cell.lit (Value.slice none 0 0))], Ob.box [vI (Core.kind c), vI (Core.number c), AC.ref 2, vI
 (Datum.kind (Core.datum c)), vI (Datum.number (Core.datum c)), vS (Datum.text (Core.datum c)), AC.ref 3, AC.ref 4], Ob.arr true 1 (List.map intC (Core.params c)), Ob.arr true 4
 (List.map datumC (Datum.items (Core.datum c))), x1] 0 
def Lc_iCopyC_sLa (c : Core) (k : Nat) : St := Tc_iCopyC_sLa c (li (↑k : Int)) (Ob.arr true 8 (List.map coreC (List.take k (Core.kids c)))) 
def Ic_iCopyC_sLa (c : Core) : Nat → St → Prop := Head (Lc_iCopyC_sLa c) (fun k => k ≤ List.length (Core.kids c) ∧ List.length (Core.kids c) ≤ 9223372036854775807) fun k =>
 List.length (Core.kids c) - k 
def W0c_iCopyC_sLa (c : Core) (x0 : Ob) : St := St.mk (regsOf 33 [(2, AV.sv (SV.one (AC.ptr 0 0))), (3, AV.sv (SV.one (AC.ptr 1 0)))]) [Ob.box [vI 0, vI 0, AC.val (Cell.lit
 (Value.slice none 0 0)), vI 0, vI 0, vS (ByteArray.mk #[]), AC.val (Cell.lit (Value.slice none 0 0)), AC.val (Cell.lit (Value.slice none 0 0))], Ob.box [vI (Core.kind c), vI
 (Core.number c), AC.ref 2, vI (Datum.kind (Core.datum c)), vI (Datum.number (Core.datum c)), vS (Datum.text (Core.datum c)), AC.ref 3, AC.ref 4], Ob.arr true 1 (List.map intC
 (Core.params c)), Ob.arr true 4 (List.map datumC (Datum.items (Core.datum c))), x0] 0 
def Yc_iCopyC_sLa (c : Core) : List (Prop × AEx × St) := [(True, AEx.exit 0, W0c_iCopyC_sLa c (Ob.arr true 8 (List.map coreC (Core.kids c))))]
theorem Hc_iCopyC_sLa {c : Core} {k : Nat} {m : Nat} (h : (fun k => k ≤ List.length (Core.kids c) ∧ List.length (Core.kids c) ≤ 9223372036854775807) k) (hm : (fun k => List.length
 (Core.kids c) - k) k = m) : Ic_iCopyC_sLa c m (Lc_iCopyC_sLa c k) := hm ▸ Head.mk h
theorem Ec_iCopyC_sLa {c : Core} {k : Nat} {x0 : SV} {x1 : Ob} (h0 : x0 = (li (↑k : Int))) (h1 : x1 = (Ob.arr true 8 (List.map coreC (List.take k (Core.kids c))))) : Tc_iCopyC_sLa
 c x0 x1 = Lc_iCopyC_sLa c k := by
  rw [h0, h1]
  rfl
theorem EW0c_iCopyC_sLa {c : Core} {x0 y0 : Ob} (h0 : x0 = y0) : W0c_iCopyC_sLa c x0 = W0c_iCopyC_sLa c y0 := by rw [h0]
theorem run_c_iCopyC_sLa (c : Core) (k : Nat) : aexec Try.prog (loopAt Try.f207 0) (Lc_iCopyC_sLa c k) [Orc.br [Orc.cells (coreF (List.getD (Core.kids c) k default)), Orc.draw [(4,
 [6, 7, 8]), (5, [4, 14]), (7, [1])], Orc.call [Mode.rd] (coreO (List.getD (Core.kids c) k default)) (AV.sv (coreR (List.getD (Core.kids c) k default) 0)), Orc.ghost (Ghost.sel [0,
 1, 2, 3, 15] [2, 3, 18, 19, 20]), Orc.goto (List.length (Core.kids c) - (k + 1)) (Lc_iCopyC_sLa c (k + 1))] [Orc.ghost (Ghost.sel [0, 1, 2, 3, 4] [2, 3]), Orc.out 0]] (loopK
 (Ic_iCopyC_sLa c) (Yc_iCopyC_sLa c) (List.length (Core.kids c) - k)) = ((decide ((↑k : Int) < (↑(List.length (List.map coreC (Core.kids c))) : Int)) = true → (0 ≤ (↑k : Int) ∧
 (List.map coreC (Core.kids c))[Int.toNat (↑k : Int)]? = some (coreF (List.getD (Core.kids c) k default))) ∧ P_c_iCopyC (List.getD (Core.kids c) k default) ∧ (List.length (List.map
 coreC (List.take k (Core.kids c))) + 1) * 120 ≤ 140737488355328 ∧ rng IntKind.i64 ((↑k : Int) + 1) ∧ List.length (Core.kids c) - (k + 1) < List.length (Core.kids c) - k ∧
 Tc_iCopyC_sLa c (li ((↑k : Int) + 1)) (Ob.arr true 8 (List.map coreC (List.take k (Core.kids c)) ++ [coreF (List.getD (Core.kids c) k default)])) = Lc_iCopyC_sLa c (k + 1) ∧
 Ic_iCopyC_sLa c (List.length (Core.kids c) - (k + 1)) (Lc_iCopyC_sLa c (k + 1))) ∧ (decide ((↑k : Int) < (↑(List.length (List.map coreC (Core.kids c))) : Int)) = false → True ∧
 W0c_iCopyC_sLa c (Ob.arr true 8 (List.map coreC (List.take k (Core.kids c)))) = W0c_iCopyC_sLa c (Ob.arr true 8 (List.map coreC (Core.kids c))))) := by kernel_rfl
theorem Sc_iCopyC_sLa (c : Core) (h : wC c ≤ 1048576) (ih : ∀ (z : Core), z ∈ Core.kids c → wC z ≤ 1048576 → P_c_iCopyC z)  : LoopSem Try.prog (loopAt Try.f207 0) (Ic_iCopyC_sLa c)
 (Yc_iCopyC_sLa c) := by
  refine LoopSem.ofHead wide fun k h => ⟨_, _, run_c_iCopyC_sLa c k, ?_⟩
  have g1 := wC_eq c
  have g2 := @sumBy_mem _ wC c.kids (c.kids.getD k default)
  with_reducible repeat' (first | apply And.intro | exact flatI | exact flatS | exact rowLens | exact ih | (intro; skip) | apply obsN | apply obsC | apply obA | apply obM | apply obB | apply svA | apply tupA | apply lcA | apply lcS | apply svC | apply liC | apply lbC | apply lsC | apply vIc | apply vBc | apply vSc | apply vLc | apply mapC | apply mIc | apply mOc | apply mSc | apply mLc | apply Hc_iCopyC_sLa | apply Ec_iCopyC_sLa | apply EW0c_iCopyC_sLa | apply c_iInts | apply c_iCopyDatum | apply ih)
  all_goals (try simp only [std] at *)
  all_goals (try (first | with_reducible apply c_iInts | with_reducible apply c_iCopyDatum | with_reducible apply ih | (simp only [← List.map_append]; first | with_reducible apply c_iInts | with_reducible apply c_iCopyDatum | with_reducible apply ih)))
  all_goals (try (first | with_reducible rfl | omega | assumption | (refine (decide_eq_true ?_).symm; assumption) | (refine (decide_eq_false ?_).symm; assumption) | (refine rowGet ?_; (first | omega | (simp only [std]; omega) | grind)) | (refine getC ?_ rfl; (first | omega | (simp only [std]; omega) | grind)) | exact look_mI | exact look_mO | exact look_mO1 | exact look_mS | exact look_mL | exact upd_mI | exact upd_mO | exact del_mO | exact upd_mS | exact take_mL | (refine upd_mL ?_; grind) | (refine fill_step ?_ ?_; (first | omega | (simp only [std]; omega) | grind); (first | rfl | exact (Row.eq _).trans rfl)) | (refine fill_init ?_; (first | rfl | exact (Row.eq _).trans rfl)) | (show (_ : St) = _; rfl) | grind [take_get, getD_mem', snocI, snocS, rowSnoc, getD_mem']))
theorem run_c_iCopyC_s (c : Core) : aexec Try.prog (Option.getD (Func.body Try.f207) Code.skip) (entry [] [coreA c] 33) [Orc.draw [(12, [18])], Orc.call [Mode.rd] [Ob.arr true 1
 (List.map intC (Core.params c))] (AV.sv (SV.one (AC.ref 0))), Orc.call [Mode.rd] (datumO (Core.datum c)) (AV.sv (datumR (Core.datum c) 0)), Orc.ghost (Ghost.nilbox 18 7 true 8),
 Orc.ghost (Ghost.sel [1, 18, 2, 10, 19] [2, 3, 18, 19, 20]), Orc.loop (List.length (Core.kids c) - 0) (Lc_iCopyC_sLa c 0) (Ic_iCopyC_sLa c) [(True, AEx.exit 0, W0c_iCopyC_sLa c
 (Ob.arr true 8 (List.map coreC (Core.kids c))), [Orc.fin [2, 3, 4]])]] (finK Try.prog [ResultVar.cell 2 95] (coreO c) (AV.sv (coreR c 0))) = (P_c_iInts (Core.params c) ∧
 P_c_iCopyDatum (Core.datum c) ∧ (List.length (List.map coreC (Core.kids c)) ≤ 9223372036854775807 → Tc_iCopyC_sLa c (li 0) (Ob.arr true 8 []) = Lc_iCopyC_sLa c 0 ∧ Ic_iCopyC_sLa c
 (List.length (Core.kids c) - 0) (Lc_iCopyC_sLa c 0) ∧ LoopSem Try.prog (loopAt Try.f207 0) (Ic_iCopyC_sLa c) (Yc_iCopyC_sLa c) ∧ (True → ObsEq [Ob.arr true 1 (List.map intC
 (Core.params c)), Ob.arr true 4 (List.map datumC (Datum.items (Core.datum c))), Ob.arr true 8 (List.map coreC (Core.kids c))] [Ob.arr true 1 (List.map intC (Core.params c)),
 Ob.arr true 4 (List.map datumC (Datum.items (Core.datum c))), Ob.arr true 8 (List.map coreC (Core.kids c))] ∧ AV.sv (SV.agg [vI (Core.kind c), vI (Core.number c), AC.ref 0, vI
 (Datum.kind (Core.datum c)), vI (Datum.number (Core.datum c)), vS (Datum.text (Core.datum c)), AC.ref 1, AC.ref 2]) = AV.sv (SV.agg [vI (Core.kind c), vI (Core.number c), AC.ref
 0, vI (Datum.kind (Core.datum c)), vI (Datum.number (Core.datum c)), vS (Datum.text (Core.datum c)), AC.ref 1, AC.ref 2])) ∧ True)) := by kernel_rfl
theorem c_iCopyC_s (c : Core) (h : wC c ≤ 1048576) (ih : ∀ z ∈ c.kids, ∀ (h : wC z ≤ 1048576), P_c_iCopyC z)  : P_c_iCopyC c := by
  refine CallOK.ofRun wide (run_c_iCopyC_s c) Try.call207 Try.func207 rfl rfl rfl ?_
  have g1 := wC_eq c
  with_reducible repeat' (first | apply And.intro | exact flatI | exact flatS | exact rowLens | exact ih | (intro; skip) | apply obsN | apply obsC | apply obA | apply obM | apply obB | apply svA | apply tupA | apply lcA | apply lcS | apply svC | apply liC | apply lbC | apply lsC | apply vIc | apply vBc | apply vSc | apply vLc | apply mapC | apply mIc | apply mOc | apply mSc | apply mLc | apply Hc_iCopyC_sLa | apply Ec_iCopyC_sLa | apply Sc_iCopyC_sLa | apply EW0c_iCopyC_sLa | apply c_iInts | apply c_iCopyDatum)
  all_goals (try simp only [std] at *)
  all_goals (try (first | with_reducible apply c_iInts | with_reducible apply c_iCopyDatum | with_reducible apply ih | (simp only [← List.map_append]; first | with_reducible apply c_iInts | with_reducible apply c_iCopyDatum | with_reducible apply ih)))
  all_goals (try (first | with_reducible rfl | omega | assumption | (refine (decide_eq_true ?_).symm; assumption) | (refine (decide_eq_false ?_).symm; assumption) | (refine rowGet ?_; (first | omega | (simp only [std]; omega) | grind)) | (refine getC ?_ rfl; (first | omega | (simp only [std]; omega) | grind)) | exact look_mI | exact look_mO | exact look_mO1 | exact look_mS | exact look_mL | exact upd_mI | exact upd_mO | exact del_mO | exact upd_mS | exact take_mL | (refine upd_mL ?_; grind) | (refine fill_step ?_ ?_; (first | omega | (simp only [std]; omega) | grind); (first | rfl | exact (Row.eq _).trans rfl)) | (refine fill_init ?_; (first | rfl | exact (Row.eq _).trans rfl)) | (show (_ : St) = _; rfl) | grind [snocI, snocS, rowSnoc]))
theorem c_iCopyC (c : Core) : ∀ (h : wC c ≤ 1048576), P_c_iCopyC c := Core.ind (P := fun c => ∀ (h : wC c ≤ 1048576), P_c_iCopyC c) (fun c ih h => c_iCopyC_s c h ih) c
abbrev P_c_sRen (c : Core) (F : List Int) (T : List Int) : Prop := CallOK Try.prog 206 [] [coreA c, ll (F.map intC), ll (T.map intC)] (coreO (ren (fT F T) c)) (.sv (coreR (ren (fT F T) c) 0))
def Tc_sRen_sLb (c : Core) (F : List Int) (T : List Int) (x0 : SV) (x1 : AC) (x2 : Ob) : St := St.mk (regsOf 73 [(1, AV.sv (ll (List.map intC F))), (2, AV.sv (ll (List.map intC
 T))), (3, AV.sv (SV.one (AC.ptr 0 0))), (6, AV.sv (SV.one (AC.ptr 1 0))), (7, AV.sv (SV.one (AC.ptr 2 0))), (55, AV.sv (li (↑(List.length (List.map coreC (Core.kids c))) : Int))),
 (56, AV.sv x0)]) [Ob.box (vals (coreF c)), Ob.box [vI 0, vI 0, AC.val (Cell.lit (Value.slice none 0 0)), vI 0, vI 0, vS (ByteArray.mk #[]), AC.val (Cell.lit (Value.slice none 0
 0)), AC.val (Cell.lit (Value.slice none 0 0))], Ob.box [vI (Core.kind c), x1, AC.ref 3, vI (Datum.kind (Core.datum c)), vI (Datum.number (Core.datum c)), vS (Datum.text
 (Core.datum c)), AC.ref 4, AC.ref 5], Ob.arr true 1 (List.map intC (List.map (rnP (fT F T)) (Core.params c))), Ob.arr true 4 (List.map datumC (Datum.items (Core.datum c))), x2] 0 
def Lc_sRen_sLb (c : Core) (F : List Int) (T : List Int) (k : Nat) : St := Tc_sRen_sLb c F T (li (↑k : Int)) (vI (rnN (fT F T) c)) (Ob.arr true 8 (List.map coreC (mapTo (ren (fT F
 T)) (Core.kids c) k))) 
def Ic_sRen_sLb (c : Core) (F : List Int) (T : List Int) : Nat → St → Prop := Head (Lc_sRen_sLb c F T) (fun k => k ≤ List.length (Core.kids c) ∧ List.length (Core.kids c) ≤
 9223372036854775807) fun k => List.length (Core.kids c) - k 
def W0c_sRen_sLb (c : Core) (F : List Int) (T : List Int) (x0 : AC) (x1 : Ob) : St := St.mk (regsOf 73 [(6, AV.sv (SV.one (AC.ptr 0 0))), (7, AV.sv (SV.one (AC.ptr 1 0)))]) [Ob.box
 [vI 0, vI 0, AC.val (Cell.lit (Value.slice none 0 0)), vI 0, vI 0, vS (ByteArray.mk #[]), AC.val (Cell.lit (Value.slice none 0 0)), AC.val (Cell.lit (Value.slice none 0 0))],
 Ob.box [vI (Core.kind c), x0, AC.ref 2, vI (Datum.kind (Core.datum c)), vI (Datum.number (Core.datum c)), vS (Datum.text (Core.datum c)), AC.ref 3, AC.ref 4], Ob.arr true 1
 (List.map intC (List.map (rnP (fT F T)) (Core.params c))), Ob.arr true 4 (List.map datumC (Datum.items (Core.datum c))), x1] 0 
def Yc_sRen_sLb (c : Core) (F : List Int) (T : List Int) : List (Prop × AEx × St) := [(True, AEx.exit 2, W0c_sRen_sLb c F T (vI (rnN (fT F T) c)) (Ob.arr true 8 (List.map coreC
 (List.map (ren (fT F T)) (Core.kids c)))))]
def Tc_sRen_sLa (c : Core) (F : List Int) (T : List Int) (x0 : SV) (x1 : AC) (x2 : Ob) : St := St.mk (regsOf 73 [(1, AV.sv (ll (List.map intC F))), (2, AV.sv (ll (List.map intC
 T))), (3, AV.sv (SV.one (AC.ptr 0 0))), (6, AV.sv (SV.one (AC.ptr 1 0))), (7, AV.sv (SV.one (AC.ptr 2 0))), (31, AV.sv (li (↑(List.length (List.map intC (Core.params c))) :
 Int))), (32, AV.sv x0)]) [Ob.box (vals (coreF c)), Ob.box [vI 0, vI 0, AC.val (Cell.lit (Value.slice none 0 0)), vI 0, vI 0, vS (ByteArray.mk #[]), AC.val (Cell.lit (Value.slice
 none 0 0)), AC.val (Cell.lit (Value.slice none 0 0))], Ob.box [vI (Core.kind c), x1, AC.ref 3, vI (Datum.kind (Core.datum c)), vI (Datum.number (Core.datum c)), vS (Datum.text
 (Core.datum c)), AC.ref 4, AC.ref 5], x2, Ob.arr true 4 (List.map datumC (Datum.items (Core.datum c))), Ob.arr true 8 (List.map coreC (Core.kids c))] 0 
def Lc_sRen_sLa (c : Core) (F : List Int) (T : List Int) (k : Nat) : St := Tc_sRen_sLa c F T (li (↑k : Int)) (vI (rnN (fT F T) c)) (Ob.arr true 1 (List.map intC (mapTo (rnP (fT F
 T)) (Core.params c) k))) 
def Ic_sRen_sLa (c : Core) (F : List Int) (T : List Int) : Nat → St → Prop := Head (Lc_sRen_sLa c F T) (fun k => k ≤ List.length (Core.params c) ∧ List.length (Core.params c) ≤
 9223372036854775807) fun k => List.length (Core.params c) - k 
def W0c_sRen_sLa (c : Core) (F : List Int) (T : List Int) (x0 : AC) (x1 : Ob) : St := St.mk (regsOf 73 [(1, AV.sv (ll (List.map intC F))), (2, AV.sv (ll (List.map intC T))), (3,
 AV.sv (SV.one (AC.ptr 0 0))), (6, AV.sv (SV.one (AC.ptr 1 0))), (7, AV.sv (SV.one (AC.ptr 2 0)))]) [Ob.box (vals (coreF c)), Ob.box [vI 0, vI 0, AC.val (Cell.lit (Value.slice none
 0 0)), vI 0, vI 0, vS (ByteArray.mk #[]), AC.val (Cell.lit (Value.slice none 0 0)), AC.val (Cell.lit (Value.slice none 0 0))], Ob.box [vI (Core.kind c), x0, AC.ref 3, vI
 (Datum.kind (Core.datum c)), vI (Datum.number (Core.datum c)), vS (Datum.text (Core.datum c)), AC.ref 4, AC.ref 5], x1, Ob.arr true 4 (List.map datumC (Datum.items (Core.datum
 c))), Ob.arr true 8 (List.map coreC (Core.kids c))] 0 
def Yc_sRen_sLa (c : Core) (F : List Int) (T : List Int) : List (Prop × AEx × St) := [(True, AEx.exit 0, W0c_sRen_sLa c F T (vI (rnN (fT F T) c)) (Ob.arr true 1 (List.map intC
 (List.map (rnP (fT F T)) (Core.params c)))))]
theorem Hc_sRen_sLb {c : Core} {F : List Int} {T : List Int} {k : Nat} {m : Nat} (h : (fun k => k ≤ List.length (Core.kids c) ∧ List.length (Core.kids c) ≤ 9223372036854775807) k)
 (hm : (fun k => List.length (Core.kids c) - k) k = m) : Ic_sRen_sLb c F T m (Lc_sRen_sLb c F T k) := hm ▸ Head.mk h
theorem Ec_sRen_sLb {c : Core} {F : List Int} {T : List Int} {k : Nat} {x0 : SV} {x1 : AC} {x2 : Ob} (h0 : x0 = (li (↑k : Int))) (h1 : x1 = (vI (rnN (fT F T) c))) (h2 : x2 =
 (Ob.arr true 8 (List.map coreC (mapTo (ren (fT F T)) (Core.kids c) k)))) : Tc_sRen_sLb c F T x0 x1 x2 = Lc_sRen_sLb c F T k := by
  rw [h0, h1, h2]
  rfl
theorem EW0c_sRen_sLb {c : Core} {F : List Int} {T : List Int} {x0 y0 : AC} {x1 y1 : Ob} (h0 : x0 = y0) (h1 : x1 = y1) : W0c_sRen_sLb c F T x0 x1 = W0c_sRen_sLb c F T y0 y1 := by
 rw [h0, h1]
theorem run_c_sRen_sLb (c : Core) (F : List Int) (T : List Int) (k : Nat) : aexec Try.prog (loopAt Try.f206 1) (Lc_sRen_sLb c F T k) [Orc.br [Orc.draw [(12, [6, 7, 8, 5])],
 Orc.cells (coreF (List.getD (Core.kids c) k default)), Orc.call [Mode.rd, Mode.rd, Mode.rd] (coreO (ren (fT F T) (List.getD (Core.kids c) k default))) (AV.sv (coreR (ren (fT F T)
 (List.getD (Core.kids c) k default)) 0)), Orc.cells (coreF (List.getD (mapTo (ren (fT F T)) (Core.kids c) k) (Int.toNat (↑k : Int)) default)), Orc.ghost (Ghost.sel [0, 1, 2, 3, 4,
 5] [1, 2, 3, 6, 7, 55, 56]), Orc.goto (List.length (Core.kids c) - (k + 1)) (Lc_sRen_sLb c F T (k + 1))] [Orc.ghost (Ghost.sel [1, 2, 3, 4, 5] [6, 7]), Orc.out 0]] (loopK
 (Ic_sRen_sLb c F T) (Yc_sRen_sLb c F T) (List.length (Core.kids c) - k)) = ((decide ((↑k : Int) < (↑(List.length (List.map coreC (Core.kids c))) : Int)) = true → (0 ≤ (↑k : Int) ∧
 (List.map coreC (Core.kids c))[Int.toNat (↑k : Int)]? = some (coreF (List.getD (Core.kids c) k default))) ∧ P_c_sRen (List.getD (Core.kids c) k default) F T ∧ (0 ≤ (↑k : Int) ∧
 Int.toNat (↑k : Int) < List.length (List.map coreC (mapTo (ren (fT F T)) (Core.kids c) k))) ∧ (List.map coreC (mapTo (ren (fT F T)) (Core.kids c) k))[Int.toNat (↑k : Int)]? = some
 (coreF (List.getD (mapTo (ren (fT F T)) (Core.kids c) k) (Int.toNat (↑k : Int)) default)) ∧ rng IntKind.i64 ((↑k : Int) + 1) ∧ List.length (Core.kids c) - (k + 1) < List.length
 (Core.kids c) - k ∧ Tc_sRen_sLb c F T (li ((↑k : Int) + 1)) (vI (rnN (fT F T) c)) (Ob.arr true 8 (List.set (List.map coreC (mapTo (ren (fT F T)) (Core.kids c) k)) (Int.toNat (↑k :
 Int)) (coreF (ren (fT F T) (List.getD (Core.kids c) k default))))) = Lc_sRen_sLb c F T (k + 1) ∧ Ic_sRen_sLb c F T (List.length (Core.kids c) - (k + 1)) (Lc_sRen_sLb c F T (k +
 1))) ∧ (decide ((↑k : Int) < (↑(List.length (List.map coreC (Core.kids c))) : Int)) = false → True ∧ W0c_sRen_sLb c F T (vI (rnN (fT F T) c)) (Ob.arr true 8 (List.map coreC (mapTo
 (ren (fT F T)) (Core.kids c) k))) = W0c_sRen_sLb c F T (vI (rnN (fT F T) c)) (Ob.arr true 8 (List.map coreC (List.map (ren (fT F T)) (Core.kids c)))))) := by kernel_rfl
theorem Hc_sRen_sLa {c : Core} {F : List Int} {T : List Int} {k : Nat} {m : Nat} (h : (fun k => k ≤ List.length (Core.params c) ∧ List.length (Core.params c) ≤ 9223372036854775807)
 k) (hm : (fun k => List.length (Core.params c) - k) k = m) : Ic_sRen_sLa c F T m (Lc_sRen_sLa c F T k) := hm ▸ Head.mk h
theorem Ec_sRen_sLa {c : Core} {F : List Int} {T : List Int} {k : Nat} {x0 : SV} {x1 : AC} {x2 : Ob} (h0 : x0 = (li (↑k : Int))) (h1 : x1 = (vI (rnN (fT F T) c))) (h2 : x2 =
 (Ob.arr true 1 (List.map intC (mapTo (rnP (fT F T)) (Core.params c) k)))) : Tc_sRen_sLa c F T x0 x1 x2 = Lc_sRen_sLa c F T k := by
  rw [h0, h1, h2]
  rfl
theorem EW0c_sRen_sLa {c : Core} {F : List Int} {T : List Int} {x0 y0 : AC} {x1 y1 : Ob} (h0 : x0 = y0) (h1 : x1 = y1) : W0c_sRen_sLa c F T x0 x1 = W0c_sRen_sLa c F T y0 y1 := by
 rw [h0, h1]
abbrev a1__sRen_sLa (c : Core) (F : List Int) (T : List Int) (k : Nat) := (List.getD (mapTo (rnP (fT F T)) (Core.params c) k) (Int.toNat (↑k : Int)) 0)
abbrev a2__sRen_sLa (c : Core) (F : List Int) (T : List Int) (k : Nat) := (List.map intC (mapTo (rnP (fT F T)) (Core.params c) k))
theorem run_c_sRen_sLa (c : Core) (F : List Int) (T : List Int) (k : Nat) : aexec Try.prog (loopAt Try.f206 0) (Lc_sRen_sLa c F T k) [Orc.br [Orc.cells (intC (List.getD (mapTo (rnP
 (fT F T)) (Core.params c) k) (Int.toNat (↑k : Int)) default)), Orc.call [Mode.rd, Mode.rd] [] (AV.sv (li (lookL F (a1__sRen_sLa c F T k)))), Orc.br [Orc.draw [(8, [3])], Orc.cells
 (intC (List.getD T (Int.toNat (lookL F (a1__sRen_sLa c F T k))) default)), Orc.cells (intC (List.getD (mapTo (rnP (fT F T)) (Core.params c) k) (Int.toNat (↑k : Int)) default)),
 Orc.ghost (Ghost.sel [0, 1, 2, 3, 4, 5] [1, 2, 3, 6, 7, 31, 32]), Orc.goto (List.length (Core.params c) - (k + 1)) (Lc_sRen_sLa c F T (k + 1))] [Orc.ghost (Ghost.sel [0, 1, 2, 3,
 4, 5] [1, 2, 3, 6, 7, 31, 32]), Orc.goto (List.length (Core.params c) - (k + 1)) (Lc_sRen_sLa c F T (k + 1))]] [Orc.ghost (Ghost.sel [0, 1, 2, 3, 4, 5] [1, 2, 3, 6, 7]), Orc.out
 0]] (loopK (Ic_sRen_sLa c F T) (Yc_sRen_sLa c F T) (List.length (Core.params c) - k)) = ((decide ((↑k : Int) < (↑(List.length (List.map intC (Core.params c))) : Int)) = true → (0
 ≤ (↑k : Int) ∧ Int.toNat (↑k : Int) < List.length (a2__sRen_sLa c F T k)) ∧ (a2__sRen_sLa c F T k)[Int.toNat (↑k : Int)]? = some [cI (a1__sRen_sLa c F T k)] ∧ P_c_sLook F
 (a1__sRen_sLa c F T k) ∧ (decide (0 ≤ lookL F (a1__sRen_sLa c F T k)) = true → (0 ≤ lookL F (a1__sRen_sLa c F T k) ∧ (List.map intC T)[Int.toNat (lookL F (a1__sRen_sLa c F T k))]?
 = some [cI (List.getD T (Int.toNat (lookL F (a1__sRen_sLa c F T k))) 0)]) ∧ (0 ≤ (↑k : Int) ∧ Int.toNat (↑k : Int) < List.length (a2__sRen_sLa c F T k)) ∧ (a2__sRen_sLa c F T
 k)[Int.toNat (↑k : Int)]? = some [cI (a1__sRen_sLa c F T k)] ∧ rng IntKind.i64 ((↑k : Int) + 1) ∧ List.length (Core.params c) - (k + 1) < List.length (Core.params c) - k ∧
 Tc_sRen_sLa c F T (li ((↑k : Int) + 1)) (vI (rnN (fT F T) c)) (Ob.arr true 1 (List.set (a2__sRen_sLa c F T k) (Int.toNat (↑k : Int)) [cI (List.getD T (Int.toNat (lookL F
 (a1__sRen_sLa c F T k))) 0)])) = Lc_sRen_sLa c F T (k + 1) ∧ Ic_sRen_sLa c F T (List.length (Core.params c) - (k + 1)) (Lc_sRen_sLa c F T (k + 1))) ∧ (decide (0 ≤ lookL F
 (a1__sRen_sLa c F T k)) = false → rng IntKind.i64 ((↑k : Int) + 1) ∧ List.length (Core.params c) - (k + 1) < List.length (Core.params c) - k ∧ Tc_sRen_sLa c F T (li ((↑k : Int) +
 1)) (vI (rnN (fT F T) c)) (Ob.arr true 1 (a2__sRen_sLa c F T k)) = Lc_sRen_sLa c F T (k + 1) ∧ Ic_sRen_sLa c F T (List.length (Core.params c) - (k + 1)) (Lc_sRen_sLa c F T (k +
 1)))) ∧ (decide ((↑k : Int) < (↑(List.length (List.map intC (Core.params c))) : Int)) = false → True ∧ W0c_sRen_sLa c F T (vI (rnN (fT F T) c)) (Ob.arr true 1 (a2__sRen_sLa c F T
 k)) = W0c_sRen_sLa c F T (vI (rnN (fT F T) c)) (Ob.arr true 1 (List.map intC (List.map (rnP (fT F T)) (Core.params c)))))) := by kernel_rfl
theorem Sc_sRen_sLb (c : Core) (F : List Int) (T : List Int) (h : wC c ≤ 1048576 ∧ List.length F = List.length T) (ih : ∀ (z : Core), z ∈ Core.kids c → ∀ (F T : List Int), wC z ≤
 1048576 ∧ List.length F = List.length T → P_c_sRen z F T)  : LoopSem Try.prog (loopAt Try.f206 1) (Ic_sRen_sLb c F T) (Yc_sRen_sLb c F T) := by
  refine LoopSem.ofHead wide fun k h => ⟨_, _, run_c_sRen_sLb c F T k, ?_⟩
  have g1 := wC_eq c
  have g2 := @sumBy_mem _ wC c.kids (c.kids.getD k default)
  have g3 := @mapTo_set _ _ (ren (fT F T)) c.kids k
  have g5 := @mapTo_all _ (ren (fT F T)) c.kids k
  have g6 := mapTo_len (ren (fT F T)) c.kids k
  with_reducible repeat' (first | apply And.intro | exact flatI | exact flatS | exact rowLens | exact ih | (intro; skip) | apply obsN | apply obsC | apply obA | apply obM | apply obB | apply svA | apply tupA | apply lcA | apply lcS | apply svC | apply liC | apply lbC | apply lsC | apply vIc | apply vBc | apply vSc | apply vLc | apply mapC | apply mIc | apply mOc | apply mSc | apply mLc | apply Hc_sRen_sLa | apply Ec_sRen_sLa | apply Hc_sRen_sLb | apply Ec_sRen_sLb | apply EW0c_sRen_sLb | apply EW0c_sRen_sLa | apply c_sCopyC | apply c_sLook | apply c_l5Names | apply ih)
  all_goals (try simp only [std] at *)
  all_goals (try (first | with_reducible apply c_sCopyC | with_reducible apply c_sLook | with_reducible apply c_l5Names | with_reducible apply ih | (simp only [← List.map_append]; first | with_reducible apply c_sCopyC | with_reducible apply c_sLook | with_reducible apply c_l5Names | with_reducible apply ih)))
  all_goals (try (first | with_reducible rfl | omega | assumption | (refine (decide_eq_true ?_).symm; assumption) | (refine (decide_eq_false ?_).symm; assumption) | (refine rowGet ?_; (first | omega | (simp only [std]; omega) | grind)) | (refine getC ?_ rfl; (first | omega | (simp only [std]; omega) | grind)) | exact look_mI | exact look_mO | exact look_mO1 | exact look_mS | exact look_mL | exact upd_mI | exact upd_mO | exact del_mO | exact upd_mS | exact take_mL | (refine upd_mL ?_; grind) | (refine fill_step ?_ ?_; (first | omega | (simp only [std]; omega) | grind); (first | rfl | exact (Row.eq _).trans rfl)) | (refine fill_init ?_; (first | rfl | exact (Row.eq _).trans rfl)) | (show (_ : St) = _; rfl) | grind [getD_mem', setC, snocI, snocS, rowSnoc]))
theorem Sc_sRen_sLa (c : Core) (F : List Int) (T : List Int) (h : wC c ≤ 1048576 ∧ List.length F = List.length T) (ih : ∀ (z : Core), z ∈ Core.kids c → ∀ (F T : List Int), wC z ≤
 1048576 ∧ List.length F = List.length T → P_c_sRen z F T)  : LoopSem Try.prog (loopAt Try.f206 0) (Ic_sRen_sLa c F T) (Yc_sRen_sLa c F T) := by
  refine LoopSem.ofHead wide fun k h => ⟨_, _, run_c_sRen_sLa c F T k, ?_⟩
  try delta a1__sRen_sLa a2__sRen_sLa
  have g1 := lookL_lt F (c.params.getD k 0)
  have g2 := @mapTo_get (rnP (fT F T)) c.params k
  have g3 := @mapTo_set _ _ (rnP (fT F T)) c.params k
  have g4 := @mapTo_same (rnP (fT F T)) c.params k
  have g5 := @mapTo_all _ (rnP (fT F T)) c.params k
  have g6 := mapTo_len (rnP (fT F T)) c.params k
  have g7 : rnP (fT F T) (c.params.getD k 0) = if 0 ≤ lookL F (c.params.getD k 0) then T.getD (lookL F (c.params.getD k 0)).toNat 0 else c.params.getD k 0 := by unfold rnP fT; split <;> rfl
  with_reducible repeat' (first | apply And.intro | exact flatI | exact flatS | exact rowLens | exact ih | (intro; skip) | apply obsN | apply obsC | apply obA | apply obM | apply obB | apply svA | apply tupA | apply lcA | apply lcS | apply svC | apply liC | apply lbC | apply lsC | apply vIc | apply vBc | apply vSc | apply vLc | apply mapC | apply mIc | apply mOc | apply mSc | apply mLc | apply Hc_sRen_sLa | apply Ec_sRen_sLa | apply Hc_sRen_sLb | apply Ec_sRen_sLb | apply Sc_sRen_sLb | apply EW0c_sRen_sLb | apply EW0c_sRen_sLa | apply c_sCopyC | apply c_sLook | apply c_l5Names)
  all_goals (try simp only [std] at *)
  all_goals (try (first | with_reducible apply c_sCopyC | with_reducible apply c_sLook | with_reducible apply c_l5Names | with_reducible apply ih | (simp only [← List.map_append]; first | with_reducible apply c_sCopyC | with_reducible apply c_sLook | with_reducible apply c_l5Names | with_reducible apply ih)))
  all_goals (try (first | with_reducible rfl | omega | assumption | (refine (decide_eq_true ?_).symm; assumption) | (refine (decide_eq_false ?_).symm; assumption) | (refine rowGet ?_; (first | omega | (simp only [std]; omega) | grind)) | (refine getC ?_ rfl; (first | omega | (simp only [std]; omega) | grind)) | exact look_mI | exact look_mO | exact look_mO1 | exact look_mS | exact look_mL | exact upd_mI | exact upd_mO | exact del_mO | exact upd_mS | exact take_mL | (refine upd_mL ?_; grind) | (refine fill_step ?_ ?_; (first | omega | (simp only [std]; omega) | grind); (first | rfl | exact (Row.eq _).trans rfl)) | (refine fill_init ?_; (first | rfl | exact (Row.eq _).trans rfl)) | (show (_ : St) = _; rfl) | grind [setI, snocI, snocS, rowSnoc]))
abbrev a1_c_sRen_s (c : Core) (F : List Int) (T : List Int) := (True → List.length (List.map coreC (Core.kids c)) ≤ 9223372036854775807 → Tc_sRen_sLb c F T (li 0) (vI (rnN (fT F T)
 c)) (Ob.arr true 8 (List.map coreC (Core.kids c))) = Lc_sRen_sLb c F T 0 ∧ Ic_sRen_sLb c F T (List.length (Core.kids c) - 0) (Lc_sRen_sLb c F T 0) ∧ LoopSem Try.prog (loopAt
 Try.f206 1) (Ic_sRen_sLb c F T) (Yc_sRen_sLb c F T) ∧ (True → ObsEq [Ob.arr true 1 (List.map intC (List.map (rnP (fT F T)) (Core.params c))), Ob.arr true 4 (List.map datumC
 (Datum.items (Core.datum c))), Ob.arr true 8 (List.map coreC (List.map (ren (fT F T)) (Core.kids c)))] [Ob.arr true 1 (List.map intC (Core.params (ren (fT F T) c))), Ob.arr true 4
 (List.map datumC (Datum.items (Core.datum (ren (fT F T) c)))), Ob.arr true 8 (List.map coreC (Core.kids (ren (fT F T) c)))] ∧ AV.sv (SV.agg [vI (Core.kind c), vI (rnN (fT F T) c),
 AC.ref 0, vI (Datum.kind (Core.datum c)), vI (Datum.number (Core.datum c)), vS (Datum.text (Core.datum c)), AC.ref 1, AC.ref 2]) = AV.sv (SV.agg [vI (Core.kind (ren (fT F T) c)),
 vI (Core.number (ren (fT F T) c)), AC.ref 0, vI (Datum.kind (Core.datum (ren (fT F T) c))), vI (Datum.number (Core.datum (ren (fT F T) c))), vS (Datum.text (Core.datum (ren (fT F
 T) c))), AC.ref 1, AC.ref 2])) ∧ True)
abbrev a2_c_sRen_s (c : Core) (F : List Int) (T : List Int) := [(True, AEx.exit 0, W0c_sRen_sLa c F T (vI (rnN (fT F T) c)) (Ob.arr true 1 (List.map intC (List.map (rnP (fT F T))
 (Core.params c)))), [Orc.ghost (Ghost.sel [0, 1, 2, 3, 4, 5] [1, 2, 3, 6, 7, 55, 56]), Orc.loop (List.length (Core.kids c) - 0) (Lc_sRen_sLb c F T 0) (Ic_sRen_sLb c F T) [(True,
 AEx.exit 2, W0c_sRen_sLb c F T (vI (rnN (fT F T) c)) (Ob.arr true 8 (List.map coreC (List.map (ren (fT F T)) (Core.kids c)))), [Orc.fin [2, 3, 4]])]])]
abbrev a3_c_sRen_s  := (Ghost.sel [0, 1, 5, 2, 3, 4] [1, 2, 3, 6, 7, 31, 32])
theorem run_c_sRen_s (c : Core) (F : List Int) (T : List Int) : aexec Try.prog (Option.getD (Func.body Try.f206) Code.skip) (entry [] [coreA c, ll (List.map intC F), ll (List.map
 intC T)] 73) [Orc.call [Mode.rd] (coreO c) (AV.sv (coreR c 0)), Orc.call [Mode.rd, Mode.rd] [] (AV.sv (li (lookL F (Core.number c)))), Orc.br [Orc.call [Mode.rd] [] (AV.sv (lb
 (decide (Core.kind c = 2 ∨ Core.kind c = 4)))), Orc.br [Orc.cells (intC (List.getD T (Int.toNat (lookL F (Core.number c))) default)), Orc.ghost a3_c_sRen_s, Orc.loop (List.length
 (Core.params c) - 0) (Lc_sRen_sLa c F T 0) (Ic_sRen_sLa c F T) (a2_c_sRen_s c F T)] [Orc.ghost a3_c_sRen_s, Orc.loop (List.length (Core.params c) - 0) (Lc_sRen_sLa c F T 0)
 (Ic_sRen_sLa c F T) (a2_c_sRen_s c F T)]] [Orc.bool false, Orc.ghost a3_c_sRen_s, Orc.loop (List.length (Core.params c) - 0) (Lc_sRen_sLa c F T 0) (Ic_sRen_sLa c F T) (a2_c_sRen_s
 c F T)]] (finK Try.prog [ResultVar.cell 6 95] (coreO (ren (fT F T) c)) (AV.sv (coreR (ren (fT F T) c) 0))) = (P_c_sCopyC c ∧ P_c_sLook F (Core.number c) ∧ (decide (0 ≤ lookL F
 (Core.number c)) = true → P_c_l5Names c ∧ (decide (Core.kind c = 2 ∨ Core.kind c = 4) = true → (0 ≤ lookL F (Core.number c) ∧ (List.map intC T)[Int.toNat (lookL F (Core.number
 c))]? = some [cI (List.getD T (Int.toNat (lookL F (Core.number c))) 0)]) ∧ (List.length (List.map intC (Core.params c)) ≤ 9223372036854775807 → Tc_sRen_sLa c F T (li 0) (vI
 (List.getD T (Int.toNat (lookL F (Core.number c))) 0)) (Ob.arr true 1 (List.map intC (Core.params c))) = Lc_sRen_sLa c F T 0 ∧ Ic_sRen_sLa c F T (List.length (Core.params c) - 0)
 (Lc_sRen_sLa c F T 0) ∧ LoopSem Try.prog (loopAt Try.f206 0) (Ic_sRen_sLa c F T) (Yc_sRen_sLa c F T) ∧ (a1_c_sRen_s c F T) ∧ True)) ∧ (decide (Core.kind c = 2 ∨ Core.kind c = 4) =
 false → List.length (List.map intC (Core.params c)) ≤ 9223372036854775807 → Tc_sRen_sLa c F T (li 0) (vI (Core.number c)) (Ob.arr true 1 (List.map intC (Core.params c))) =
 Lc_sRen_sLa c F T 0 ∧ Ic_sRen_sLa c F T (List.length (Core.params c) - 0) (Lc_sRen_sLa c F T 0) ∧ LoopSem Try.prog (loopAt Try.f206 0) (Ic_sRen_sLa c F T) (Yc_sRen_sLa c F T) ∧
 (a1_c_sRen_s c F T) ∧ True)) ∧ (decide (0 ≤ lookL F (Core.number c)) = false → false = false ∧ (List.length (List.map intC (Core.params c)) ≤ 9223372036854775807 → Tc_sRen_sLa c F
 T (li 0) (vI (Core.number c)) (Ob.arr true 1 (List.map intC (Core.params c))) = Lc_sRen_sLa c F T 0 ∧ Ic_sRen_sLa c F T (List.length (Core.params c) - 0) (Lc_sRen_sLa c F T 0) ∧
 LoopSem Try.prog (loopAt Try.f206 0) (Ic_sRen_sLa c F T) (Yc_sRen_sLa c F T) ∧ (a1_c_sRen_s c F T) ∧ True))) := by kernel_rfl
theorem c_sRen_s (c : Core) (F T : List Int) (h : wC c ≤ 1048576 ∧ F.length = T.length) (ih : ∀ z ∈ c.kids, ∀ (F : List Int) (T : List Int) (h : wC z ≤ 1048576 ∧ F.length =
 T.length), P_c_sRen z F T)  : P_c_sRen c F T := by
  refine CallOK.ofRun wide (run_c_sRen_s c F T) Try.call206 Try.func206 rfl rfl rfl ?_
  try delta a1_c_sRen_s a2_c_sRen_s a3_c_sRen_s
  have g1 := lookL_lt F c.number
  with_reducible repeat' (first | apply And.intro | exact flatI | exact flatS | exact rowLens | exact ih | (intro; skip) | apply obsN | apply obsC | apply obA | apply obM | apply obB | apply svA | apply tupA | apply lcA | apply lcS | apply svC | apply liC | apply lbC | apply lsC | apply vIc | apply vBc | apply vSc | apply vLc | apply mapC | apply mIc | apply mOc | apply mSc | apply mLc | apply Hc_sRen_sLa | apply Ec_sRen_sLa | apply Sc_sRen_sLa | apply Hc_sRen_sLb | apply Ec_sRen_sLb | apply Sc_sRen_sLb | apply EW0c_sRen_sLb | apply EW0c_sRen_sLa | apply c_sCopyC | apply c_sLook | apply c_l5Names)
  all_goals (try simp only [std] at *)
  all_goals (try (first | with_reducible apply c_sCopyC | with_reducible apply c_sLook | with_reducible apply c_l5Names | with_reducible apply ih | (simp only [← List.map_append]; first | with_reducible apply c_sCopyC | with_reducible apply c_sLook | with_reducible apply c_l5Names | with_reducible apply ih)))
  all_goals (try (first | with_reducible rfl | omega | assumption | (refine (decide_eq_true ?_).symm; assumption) | (refine (decide_eq_false ?_).symm; assumption) | (refine rowGet ?_; (first | omega | (simp only [std]; omega) | grind)) | (refine getC ?_ rfl; (first | omega | (simp only [std]; omega) | grind)) | exact look_mI | exact look_mO | exact look_mO1 | exact look_mS | exact look_mL | exact upd_mI | exact upd_mO | exact del_mO | exact upd_mS | exact take_mL | (refine upd_mL ?_; grind) | (refine fill_step ?_ ?_; (first | omega | (simp only [std]; omega) | grind); (first | rfl | exact (Row.eq _).trans rfl)) | (refine fill_init ?_; (first | rfl | exact (Row.eq _).trans rfl)) | (show (_ : St) = _; rfl) | grind [ren_eq, rnN, fT, mapTo_zero, snocI, snocS, rowSnoc]))
theorem c_sRen (c : Core) : ∀ (F : List Int) (T : List Int) (h : wC c ≤ 1048576 ∧ F.length = T.length), P_c_sRen c F T := Core.ind (P := fun c => ∀ (F : List Int) (T : List Int) (h : wC c ≤ 1048576 ∧ F.length = T.length), P_c_sRen c F T) (fun c ih F T h => c_sRen_s c F T h ih) c
abbrev P_c_iRen (c : Core) (f : Int → Option Int) : Prop := CallOK Try.prog 208 [.map false kO (mO f)] [coreA c, .one (.mref 0)] ([.map false kO (mO f)] ++ coreO (ren f c)) (.sv (coreR (ren f c) 1))
def Tc_iRen_sLb (c : Core) (f : Int → Option Int) (x0 : SV) (x1 : AC) (x2 : Ob) : St := St.mk (regsOf 73 [(1, AV.sv (SV.one (AC.mref 0))), (4, AV.sv (SV.one (AC.ptr 1 0))), (5,
 AV.sv (SV.one (AC.ptr 2 0))), (57, AV.sv (ll (List.map coreC (Core.kids c)))), (58, AV.sv (li (↑(List.length (List.map coreC (Core.kids c))) : Int))), (59, AV.sv x0)]) [Ob.map
 false kO (mO f), Ob.box [vI 0, vI 0, AC.val (Cell.lit (Value.slice none 0 0)), vI 0, vI 0, vS (ByteArray.mk #[]), AC.val (Cell.lit (Value.slice none 0 0)), AC.val (Cell.lit
 (Value.slice none 0 0))], Ob.box [vI (Core.kind (Core.mk (Core.kind c) (Core.number c) (Core.params c) (Core.datum c) [])), x1, AC.ref 3, vI (Datum.kind (Core.datum (Core.mk
 (Core.kind c) (Core.number c) (Core.params c) (Core.datum c) []))), vI (Datum.number (Core.datum (Core.mk (Core.kind c) (Core.number c) (Core.params c) (Core.datum c) []))), vS
 (Datum.text (Core.datum (Core.mk (Core.kind c) (Core.number c) (Core.params c) (Core.datum c) []))), AC.ref 4, AC.ref 5], Ob.arr true 1 (List.map intC (List.map (rnP f)
 (Core.params c))), Ob.arr true 4 (List.map datumC (Datum.items (Core.datum (Core.mk (Core.kind c) (Core.number c) (Core.params c) (Core.datum c) [])))), x2] 1 
def Lc_iRen_sLb (c : Core) (f : Int → Option Int) (k : Nat) : St := Tc_iRen_sLb c f (li (↑k : Int)) (vI (rnN f c)) (Ob.arr true 8 (List.map coreC (List.map (ren f) (List.take k
 (Core.kids c))))) 
def Ic_iRen_sLb (c : Core) (f : Int → Option Int) : Nat → St → Prop := Head (Lc_iRen_sLb c f) (fun k => k ≤ List.length (Core.kids c) ∧ List.length (Core.kids c) ≤
 9223372036854775807) fun k => List.length (Core.kids c) - k 
def W0c_iRen_sLb (c : Core) (f : Int → Option Int) (x0 : AC) (x1 : Ob) : St := St.mk (regsOf 73 [(4, AV.sv (SV.one (AC.ptr 1 0))), (5, AV.sv (SV.one (AC.ptr 2 0)))]) [Ob.map false
 kO (mO f), Ob.box [vI 0, vI 0, AC.val (Cell.lit (Value.slice none 0 0)), vI 0, vI 0, vS (ByteArray.mk #[]), AC.val (Cell.lit (Value.slice none 0 0)), AC.val (Cell.lit (Value.slice
 none 0 0))], Ob.box [vI (Core.kind (Core.mk (Core.kind c) (Core.number c) (Core.params c) (Core.datum c) [])), x0, AC.ref 3, vI (Datum.kind (Core.datum (Core.mk (Core.kind c)
 (Core.number c) (Core.params c) (Core.datum c) []))), vI (Datum.number (Core.datum (Core.mk (Core.kind c) (Core.number c) (Core.params c) (Core.datum c) []))), vS (Datum.text
 (Core.datum (Core.mk (Core.kind c) (Core.number c) (Core.params c) (Core.datum c) []))), AC.ref 4, AC.ref 5], Ob.arr true 1 (List.map intC (List.map (rnP f) (Core.params c))),
 Ob.arr true 4 (List.map datumC (Datum.items (Core.datum (Core.mk (Core.kind c) (Core.number c) (Core.params c) (Core.datum c) [])))), x1] 1 
def Yc_iRen_sLb (c : Core) (f : Int → Option Int) : List (Prop × AEx × St) := [(True, AEx.exit 2, W0c_iRen_sLb c f (vI (rnN f c)) (Ob.arr true 8 (List.map coreC (List.map (ren f)
 (Core.kids c)))))]
def Tc_iRen_sLa (c : Core) (f : Int → Option Int) (x0 : SV) (x1 : AC) (x2 : Ob) : St := St.mk (regsOf 73 [(1, AV.sv (SV.one (AC.mref 0))), (2, AV.sv (SV.one (AC.ptr 1 0))), (4,
 AV.sv (SV.one (AC.ptr 2 0))), (5, AV.sv (SV.one (AC.ptr 3 0))), (41, AV.sv (ll (List.map intC (Core.params c)))), (42, AV.sv (li (↑(List.length (List.map intC (Core.params c))) :
 Int))), (43, AV.sv x0)]) [Ob.map false kO (mO f), Ob.box (vals (coreF c)), Ob.box [vI 0, vI 0, AC.val (Cell.lit (Value.slice none 0 0)), vI 0, vI 0, vS (ByteArray.mk #[]), AC.val
 (Cell.lit (Value.slice none 0 0)), AC.val (Cell.lit (Value.slice none 0 0))], Ob.box [vI (Core.kind (Core.mk (Core.kind c) (Core.number c) (Core.params c) (Core.datum c) [])), x1,
 AC.ref 4, vI (Datum.kind (Core.datum (Core.mk (Core.kind c) (Core.number c) (Core.params c) (Core.datum c) []))), vI (Datum.number (Core.datum (Core.mk (Core.kind c) (Core.number
 c) (Core.params c) (Core.datum c) []))), vS (Datum.text (Core.datum (Core.mk (Core.kind c) (Core.number c) (Core.params c) (Core.datum c) []))), AC.ref 5, AC.ref 6], x2, Ob.arr
 true 4 (List.map datumC (Datum.items (Core.datum (Core.mk (Core.kind c) (Core.number c) (Core.params c) (Core.datum c) [])))), Ob.arr true 8 []] 1 
def Lc_iRen_sLa (c : Core) (f : Int → Option Int) (k : Nat) : St := Tc_iRen_sLa c f (li (↑k : Int)) (vI (rnN f c)) (Ob.arr true 1 (List.map intC (mapTo (rnP f) (Core.params c) k)))
def Ic_iRen_sLa (c : Core) (f : Int → Option Int) : Nat → St → Prop := Head (Lc_iRen_sLa c f) (fun k => k ≤ List.length (Core.params c) ∧ List.length (Core.params c) ≤
 9223372036854775807) fun k => List.length (Core.params c) - k 
def W0c_iRen_sLa (c : Core) (f : Int → Option Int) (x0 : AC) (x1 : Ob) : St := St.mk (regsOf 73 [(1, AV.sv (SV.one (AC.mref 0))), (2, AV.sv (SV.one (AC.ptr 1 0))), (4, AV.sv
 (SV.one (AC.ptr 2 0))), (5, AV.sv (SV.one (AC.ptr 3 0)))]) [Ob.map false kO (mO f), Ob.box (vals (coreF c)), Ob.box [vI 0, vI 0, AC.val (Cell.lit (Value.slice none 0 0)), vI 0, vI
 0, vS (ByteArray.mk #[]), AC.val (Cell.lit (Value.slice none 0 0)), AC.val (Cell.lit (Value.slice none 0 0))], Ob.box [vI (Core.kind (Core.mk (Core.kind c) (Core.number c)
 (Core.params c) (Core.datum c) [])), x0, AC.ref 4, vI (Datum.kind (Core.datum (Core.mk (Core.kind c) (Core.number c) (Core.params c) (Core.datum c) []))), vI (Datum.number
 (Core.datum (Core.mk (Core.kind c) (Core.number c) (Core.params c) (Core.datum c) []))), vS (Datum.text (Core.datum (Core.mk (Core.kind c) (Core.number c) (Core.params c)
 (Core.datum c) []))), AC.ref 5, AC.ref 6], x1, Ob.arr true 4 (List.map datumC (Datum.items (Core.datum (Core.mk (Core.kind c) (Core.number c) (Core.params c) (Core.datum c)
 [])))), Ob.arr true 8 []] 1 
def Yc_iRen_sLa (c : Core) (f : Int → Option Int) : List (Prop × AEx × St) := [(True, AEx.exit 0, W0c_iRen_sLa c f (vI (rnN f c)) (Ob.arr true 1 (List.map intC (List.map (rnP f)
 (Core.params c)))))]
theorem Hc_iRen_sLb {c : Core} {f : Int → Option Int} {k : Nat} {m : Nat} (h : (fun k => k ≤ List.length (Core.kids c) ∧ List.length (Core.kids c) ≤ 9223372036854775807) k) (hm :
 (fun k => List.length (Core.kids c) - k) k = m) : Ic_iRen_sLb c f m (Lc_iRen_sLb c f k) := hm ▸ Head.mk h
theorem Ec_iRen_sLb {c : Core} {f : Int → Option Int} {k : Nat} {x0 : SV} {x1 : AC} {x2 : Ob} (h0 : x0 = (li (↑k : Int))) (h1 : x1 = (vI (rnN f c))) (h2 : x2 = (Ob.arr true 8
 (List.map coreC (List.map (ren f) (List.take k (Core.kids c)))))) : Tc_iRen_sLb c f x0 x1 x2 = Lc_iRen_sLb c f k := by
  rw [h0, h1, h2]
  rfl
theorem EW0c_iRen_sLb {c : Core} {f : Int → Option Int} {x0 y0 : AC} {x1 y1 : Ob} (h0 : x0 = y0) (h1 : x1 = y1) : W0c_iRen_sLb c f x0 x1 = W0c_iRen_sLb c f y0 y1 := by rw [h0, h1]
theorem run_c_iRen_sLb (c : Core) (f : Int → Option Int) (k : Nat) : aexec Try.prog (loopAt Try.f208 1) (Lc_iRen_sLb c f k) [Orc.br [Orc.cells (coreF (List.getD (Core.kids c) k
 default)), Orc.draw [(4, [0]), (5, [8, 9, 10]), (6, [5, 15]), (8, [2])], Orc.call [Mode.rd, Mode.map] ([Ob.map false kO (mO f)] ++ coreO (ren f (List.getD (Core.kids c) k
 default))) (AV.sv (coreR (ren f (List.getD (Core.kids c) k default)) 1)), Orc.ghost (Ghost.sel [0, 1, 2, 3, 4, 16] [1, 4, 5, 57, 58, 59]), Orc.goto (List.length (Core.kids c) - (k
 + 1)) (Lc_iRen_sLb c f (k + 1))] [Orc.ghost (Ghost.sel [0, 1, 2, 3, 4, 5] [4, 5]), Orc.out 0]] (loopK (Ic_iRen_sLb c f) (Yc_iRen_sLb c f) (List.length (Core.kids c) - k)) =
 ((decide ((↑k : Int) < (↑(List.length (List.map coreC (Core.kids c))) : Int)) = true → (0 ≤ (↑k : Int) ∧ (List.map coreC (Core.kids c))[Int.toNat (↑k : Int)]? = some (coreF
 (List.getD (Core.kids c) k default))) ∧ P_c_iRen (List.getD (Core.kids c) k default) f ∧ (List.length (List.map coreC (List.map (ren f) (List.take k (Core.kids c)))) + 1) * 120 ≤
 140737488355328 ∧ rng IntKind.i64 ((↑k : Int) + 1) ∧ List.length (Core.kids c) - (k + 1) < List.length (Core.kids c) - k ∧ Tc_iRen_sLb c f (li ((↑k : Int) + 1)) (vI (rnN f c))
 (Ob.arr true 8 (List.map coreC (List.map (ren f) (List.take k (Core.kids c))) ++ [coreF (ren f (List.getD (Core.kids c) k default))])) = Lc_iRen_sLb c f (k + 1) ∧ Ic_iRen_sLb c f
 (List.length (Core.kids c) - (k + 1)) (Lc_iRen_sLb c f (k + 1))) ∧ (decide ((↑k : Int) < (↑(List.length (List.map coreC (Core.kids c))) : Int)) = false → True ∧ W0c_iRen_sLb c f
 (vI (rnN f c)) (Ob.arr true 8 (List.map coreC (List.map (ren f) (List.take k (Core.kids c))))) = W0c_iRen_sLb c f (vI (rnN f c)) (Ob.arr true 8 (List.map coreC (List.map (ren f)
 (Core.kids c)))))) := by kernel_rfl
theorem Hc_iRen_sLa {c : Core} {f : Int → Option Int} {k : Nat} {m : Nat} (h : (fun k => k ≤ List.length (Core.params c) ∧ List.length (Core.params c) ≤ 9223372036854775807) k) (hm
 : (fun k => List.length (Core.params c) - k) k = m) : Ic_iRen_sLa c f m (Lc_iRen_sLa c f k) := hm ▸ Head.mk h
theorem Ec_iRen_sLa {c : Core} {f : Int → Option Int} {k : Nat} {x0 : SV} {x1 : AC} {x2 : Ob} (h0 : x0 = (li (↑k : Int))) (h1 : x1 = (vI (rnN f c))) (h2 : x2 = (Ob.arr true 1
 (List.map intC (mapTo (rnP f) (Core.params c) k)))) : Tc_iRen_sLa c f x0 x1 x2 = Lc_iRen_sLa c f k := by
  rw [h0, h1, h2]
  rfl
theorem EW0c_iRen_sLa {c : Core} {f : Int → Option Int} {x0 y0 : AC} {x1 y1 : Ob} (h0 : x0 = y0) (h1 : x1 = y1) : W0c_iRen_sLa c f x0 x1 = W0c_iRen_sLa c f y0 y1 := by rw [h0, h1]
theorem run_c_iRen_sLa (c : Core) (f : Int → Option Int) (k : Nat) : aexec Try.prog (loopAt Try.f208 0) (Lc_iRen_sLa c f k) [Orc.br [Orc.cells (intC (List.getD (Core.params c) k
 default)), Orc.cells [cI (Option.getD (f (List.getD (Core.params c) k 0)) 0)], Orc.cells (intC (List.getD (mapTo (rnP f) (Core.params c) k) (Int.toNat (↑k : Int)) default)),
 Orc.ghost (Ghost.sel [0, 1, 2, 3, 4, 5, 6] [1, 2, 4, 5, 41, 42, 43]), Orc.goto (List.length (Core.params c) - (k + 1)) (Lc_iRen_sLa c f (k + 1))] [Orc.ghost (Ghost.sel [0, 1, 2,
 3, 4, 5, 6] [1, 2, 4, 5]), Orc.out 0]] (loopK (Ic_iRen_sLa c f) (Yc_iRen_sLa c f) (List.length (Core.params c) - k)) = ((decide ((↑k : Int) < (↑(List.length (List.map intC
 (Core.params c))) : Int)) = true → (0 ≤ (↑k : Int) ∧ (List.map intC (Core.params c))[Int.toNat (↑k : Int)]? = some [cI (List.getD (Core.params c) k 0)]) ∧ LookAt (Value.int
 IntKind.i64 0) (mO f) (Value.int IntKind.i64 (List.getD (Core.params c) k 0)) (cI (Option.getD (f (List.getD (Core.params c) k 0)) 0)) ∧ (0 ≤ (↑k : Int) ∧ Int.toNat (↑k : Int) <
 List.length (List.map intC (mapTo (rnP f) (Core.params c) k))) ∧ (List.map intC (mapTo (rnP f) (Core.params c) k))[Int.toNat (↑k : Int)]? = some [cI (List.getD (mapTo (rnP f)
 (Core.params c) k) (Int.toNat (↑k : Int)) 0)] ∧ rng IntKind.i64 ((↑k : Int) + 1) ∧ List.length (Core.params c) - (k + 1) < List.length (Core.params c) - k ∧ Tc_iRen_sLa c f (li
 ((↑k : Int) + 1)) (vI (rnN f c)) (Ob.arr true 1 (List.set (List.map intC (mapTo (rnP f) (Core.params c) k)) (Int.toNat (↑k : Int)) [cI (Option.getD (f (List.getD (Core.params c) k
 0)) 0)])) = Lc_iRen_sLa c f (k + 1) ∧ Ic_iRen_sLa c f (List.length (Core.params c) - (k + 1)) (Lc_iRen_sLa c f (k + 1))) ∧ (decide ((↑k : Int) < (↑(List.length (List.map intC
 (Core.params c))) : Int)) = false → True ∧ W0c_iRen_sLa c f (vI (rnN f c)) (Ob.arr true 1 (List.map intC (mapTo (rnP f) (Core.params c) k))) = W0c_iRen_sLa c f (vI (rnN f c))
 (Ob.arr true 1 (List.map intC (List.map (rnP f) (Core.params c)))))) := by kernel_rfl
theorem Sc_iRen_sLb (c : Core) (f : Int → Option Int) (h : wC c ≤ 1048576) (hb : ∀ (n : Int), n ∈ bnd c → Option.isSome (f n) = true) (ih : ∀ (z : Core), z ∈ Core.kids c → ∀ (f :
 Int → Option Int), wC z ≤ 1048576 → (∀ (n : Int), n ∈ bnd z → Option.isSome (f n) = true) → P_c_iRen z f)  : LoopSem Try.prog (loopAt Try.f208 1) (Ic_iRen_sLb c f) (Yc_iRen_sLb c
 f) := by
  refine LoopSem.ofHead wide fun k h => ⟨_, _, run_c_iRen_sLb c f k, ?_⟩
  have g1 := wC_eq c
  have g2 := @sumBy_mem _ wC c.kids (c.kids.getD k default)
  have g3 : ∀ n ∈ bnd (c.kids.getD k default), k < c.kids.length → (f n).isSome = true := fun n hn hk => hb n (bnd_kid (getD_mem' hk) n hn)
  with_reducible repeat' (first | apply And.intro | exact flatI | exact flatS | exact rowLens | exact ih | (intro; skip) | apply obsN | apply obsC | apply obA | apply obM | apply obB | apply svA | apply tupA | apply lcA | apply lcS | apply svC | apply liC | apply lbC | apply lsC | apply vIc | apply vBc | apply vSc | apply vLc | apply mapC | apply mIc | apply mOc | apply mSc | apply mLc | apply Hc_iRen_sLa | apply Ec_iRen_sLa | apply Hc_iRen_sLb | apply Ec_iRen_sLb | apply EW0c_iRen_sLb | apply EW0c_iRen_sLa | apply c_iCopyC | apply ih)
  all_goals (try simp only [std] at *)
  all_goals (try (first | with_reducible apply c_iCopyC | with_reducible apply ih | (simp only [← List.map_append]; first | with_reducible apply c_iCopyC | with_reducible apply ih)))
  all_goals (try (first | with_reducible rfl | omega | assumption | (refine (decide_eq_true ?_).symm; assumption) | (refine (decide_eq_false ?_).symm; assumption) | (refine rowGet ?_; (first | omega | (simp only [std]; omega) | grind)) | (refine getC ?_ rfl; (first | omega | (simp only [std]; omega) | grind)) | exact look_mI | exact look_mO | exact look_mO1 | exact look_mS | exact look_mL | exact upd_mI | exact upd_mO | exact del_mO | exact upd_mS | exact take_mL | (refine upd_mL ?_; grind) | (refine fill_step ?_ ?_; (first | omega | (simp only [std]; omega) | grind); (first | rfl | exact (Row.eq _).trans rfl)) | (refine fill_init ?_; (first | rfl | exact (Row.eq _).trans rfl)) | (show (_ : St) = _; rfl) | grind [take_get, getD_mem', snocI, snocS, rowSnoc]))
theorem Sc_iRen_sLa (c : Core) (f : Int → Option Int) (h : wC c ≤ 1048576) (hb : ∀ (n : Int), n ∈ bnd c → Option.isSome (f n) = true) (ih : ∀ (z : Core), z ∈ Core.kids c → ∀ (f :
 Int → Option Int), wC z ≤ 1048576 → (∀ (n : Int), n ∈ bnd z → Option.isSome (f n) = true) → P_c_iRen z f)  : LoopSem Try.prog (loopAt Try.f208 0) (Ic_iRen_sLa c f) (Yc_iRen_sLa c
 f) := by
  refine LoopSem.ofHead wide fun k h => ⟨_, _, run_c_iRen_sLa c f k, ?_⟩
  have g2 := @mapTo_get (rnP f) c.params k
  have g3 := @mapTo_set _ _ (rnP f) c.params k
  have g5 := @mapTo_all _ (rnP f) c.params k
  have g6 := mapTo_len (rnP f) c.params k
  have g7 : k < c.params.length → rnP f (c.params.getD k 0) = (f (c.params.getD k 0)).getD 0 := by
    intro hk
    have := hb _ (bnd_par hk)
    unfold rnP
    cases e : f (c.params.getD k 0) with
    | none => rw [e] at this; cases this
    | some v => rfl
  with_reducible repeat' (first | apply And.intro | exact flatI | exact flatS | exact rowLens | exact ih | (intro; skip) | apply obsN | apply obsC | apply obA | apply obM | apply obB | apply svA | apply tupA | apply lcA | apply lcS | apply svC | apply liC | apply lbC | apply lsC | apply vIc | apply vBc | apply vSc | apply vLc | apply mapC | apply mIc | apply mOc | apply mSc | apply mLc | apply Hc_iRen_sLa | apply Ec_iRen_sLa | apply Hc_iRen_sLb | apply Ec_iRen_sLb | apply Sc_iRen_sLb | apply EW0c_iRen_sLb | apply EW0c_iRen_sLa | apply c_iCopyC)
  all_goals (try simp only [std] at *)
  all_goals (try (first | with_reducible apply c_iCopyC | with_reducible apply ih | (simp only [← List.map_append]; first | with_reducible apply c_iCopyC | with_reducible apply ih)))
  all_goals (try (first | with_reducible rfl | omega | assumption | (refine (decide_eq_true ?_).symm; assumption) | (refine (decide_eq_false ?_).symm; assumption) | (refine rowGet ?_; (first | omega | (simp only [std]; omega) | grind)) | (refine getC ?_ rfl; (first | omega | (simp only [std]; omega) | grind)) | exact look_mI | exact look_mO | exact look_mO1 | exact look_mS | exact look_mL | exact upd_mI | exact upd_mO | exact del_mO | exact upd_mS | exact take_mL | (refine upd_mL ?_; grind) | (refine fill_step ?_ ?_; (first | omega | (simp only [std]; omega) | grind); (first | rfl | exact (Row.eq _).trans rfl)) | (refine fill_init ?_; (first | rfl | exact (Row.eq _).trans rfl)) | (show (_ : St) = _; rfl) | grind [setI, snocI, snocS, rowSnoc]))
abbrev a3_c_iRen_s (c : Core) := (Core.mk (Core.kind c) (Core.number c) (Core.params c) (Core.datum c) [])
abbrev a1_c_iRen_s (c : Core) (f : Int → Option Int) := (True → List.length (List.map coreC (Core.kids c)) ≤ 9223372036854775807 → Tc_iRen_sLb c f (li 0) (vI (rnN f c)) (Ob.arr
 true 8 []) = Lc_iRen_sLb c f 0 ∧ Ic_iRen_sLb c f (List.length (Core.kids c) - 0) (Lc_iRen_sLb c f 0) ∧ LoopSem Try.prog (loopAt Try.f208 1) (Ic_iRen_sLb c f) (Yc_iRen_sLb c f) ∧
 (True → ObsEq [Ob.map false kO (mO f), Ob.arr true 1 (List.map intC (List.map (rnP f) (Core.params c))), Ob.arr true 4 (List.map datumC (Datum.items (Core.datum (a3_c_iRen_s
 c)))), Ob.arr true 8 (List.map coreC (List.map (ren f) (Core.kids c)))] [Ob.map false kO (mO f), Ob.arr true 1 (List.map intC (Core.params (ren f c))), Ob.arr true 4 (List.map
 datumC (Datum.items (Core.datum (ren f c)))), Ob.arr true 8 (List.map coreC (Core.kids (ren f c)))] ∧ AV.sv (SV.agg [vI (Core.kind (a3_c_iRen_s c)), vI (rnN f c), AC.ref 1, vI
 (Datum.kind (Core.datum (a3_c_iRen_s c))), vI (Datum.number (Core.datum (a3_c_iRen_s c))), vS (Datum.text (Core.datum (a3_c_iRen_s c))), AC.ref 2, AC.ref 3]) = AV.sv (SV.agg [vI
 (Core.kind (ren f c)), vI (Core.number (ren f c)), AC.ref 1, vI (Datum.kind (Core.datum (ren f c))), vI (Datum.number (Core.datum (ren f c))), vS (Datum.text (Core.datum (ren f
 c))), AC.ref 2, AC.ref 3])) ∧ True)
abbrev a2_c_iRen_s (c : Core) (f : Int → Option Int) := [Orc.ghost (Ghost.sel [0, 1, 2, 6, 3, 4, 5] [1, 2, 4, 5, 41, 42, 43]), Orc.loop (List.length (Core.params c) - 0)
 (Lc_iRen_sLa c f 0) (Ic_iRen_sLa c f) [(True, AEx.exit 0, W0c_iRen_sLa c f (vI (rnN f c)) (Ob.arr true 1 (List.map intC (List.map (rnP f) (Core.params c)))), [Orc.ghost (Ghost.sel
 [0, 2, 3, 4, 5, 6] [1, 4, 5, 57, 58, 59]), Orc.loop (List.length (Core.kids c) - 0) (Lc_iRen_sLb c f 0) (Ic_iRen_sLb c f) [(True, AEx.exit 2, W0c_iRen_sLb c f (vI (rnN f c))
 (Ob.arr true 8 (List.map coreC (List.map (ren f) (Core.kids c)))), [Orc.fin [3, 4, 5]])]])]]
abbrev a4_c_iRen_s (c : Core) (f : Int → Option Int) := (Option.isSome (f (Core.number c)) = true → List.length (List.map intC (Core.params c)) ≤ 9223372036854775807 → Tc_iRen_sLa
 c f (li 0) (vI (Option.getD (f (Core.number c)) 0)) (Ob.arr true 1 (List.map intC (Core.params (a3_c_iRen_s c)))) = Lc_iRen_sLa c f 0 ∧ Ic_iRen_sLa c f (List.length (Core.params
 c) - 0) (Lc_iRen_sLa c f 0) ∧ LoopSem Try.prog (loopAt Try.f208 0) (Ic_iRen_sLa c f) (Yc_iRen_sLa c f) ∧ (a1_c_iRen_s c f) ∧ True)
abbrev a5_c_iRen_s (c : Core) (f : Int → Option Int) := (Option.isSome (f (Core.number c)) = false → List.length (List.map intC (Core.params c)) ≤ 9223372036854775807 → Tc_iRen_sLa
 c f (li 0) (vI (Core.number (a3_c_iRen_s c))) (Ob.arr true 1 (List.map intC (Core.params (a3_c_iRen_s c)))) = Lc_iRen_sLa c f 0 ∧ Ic_iRen_sLa c f (List.length (Core.params c) - 0)
 (Lc_iRen_sLa c f 0) ∧ LoopSem Try.prog (loopAt Try.f208 0) (Ic_iRen_sLa c f) (Yc_iRen_sLa c f) ∧ (a1_c_iRen_s c f) ∧ True)
abbrev a6_c_iRen_s (c : Core) (f : Int → Option Int) := (mO f (Value.int IntKind.i64 (Core.number c)) = some (cI (Option.getD (f (Core.number c)) 0)) ∧ Option.isSome (f
 (Core.number c)) = true ∨ mO f (Value.int IntKind.i64 (Core.number c)) = none ∧ cI (Option.getD (f (Core.number c)) 0) = cI 0 ∧ Option.isSome (f (Core.number c)) = false)
theorem run_c_iRen_s (c : Core) (f : Int → Option Int) : aexec Try.prog (Option.getD (Func.body Try.f208) Code.skip) (entry [Ob.map false kO (mO f)] [coreA c, SV.one (AC.mref 0)]
 73) [Orc.call [Mode.rd] (coreO (a3_c_iRen_s c)) (AV.sv (coreR (a3_c_iRen_s c) 0)), Orc.br [Orc.bool true, Orc.cells [cI (Option.getD (f (Core.number c)) 0)], Orc.bool
 (Option.isSome (f (Core.number c))), Orc.br (a2_c_iRen_s c f) (a2_c_iRen_s c f)] [Orc.br [Orc.cells [cI (Option.getD (f (Core.number c)) 0)], Orc.bool (Option.isSome (f
 (Core.number c))), Orc.br (a2_c_iRen_s c f) (a2_c_iRen_s c f)] (a2_c_iRen_s c f)]] (finK Try.prog [ResultVar.cell 4 95] ([Ob.map false kO (mO f)] ++ coreO (ren f c)) (AV.sv (coreR
 (ren f c) 1))) = (P_c_iCopyC (a3_c_iRen_s c) ∧ (decide (Core.kind c = 2) = true → true = true ∧ (a6_c_iRen_s c f) ∧ (a4_c_iRen_s c f) ∧ (a5_c_iRen_s c f)) ∧ (decide (Core.kind c =
 2) = false → (decide (Core.kind c = 4) = true → (a6_c_iRen_s c f) ∧ (a4_c_iRen_s c f) ∧ (a5_c_iRen_s c f)) ∧ (decide (Core.kind c = 4) = false → List.length (List.map intC
 (Core.params c)) ≤ 9223372036854775807 → Tc_iRen_sLa c f (li 0) (vI (Core.number (a3_c_iRen_s c))) (Ob.arr true 1 (List.map intC (Core.params (a3_c_iRen_s c)))) = Lc_iRen_sLa c f
 0 ∧ Ic_iRen_sLa c f (List.length (Core.params c) - 0) (Lc_iRen_sLa c f 0) ∧ LoopSem Try.prog (loopAt Try.f208 0) (Ic_iRen_sLa c f) (Yc_iRen_sLa c f) ∧ (a1_c_iRen_s c f) ∧ True)))
 := by kernel_rfl
theorem c_iRen_s (c : Core) (f : Int → Option Int) (h : wC c ≤ 1048576) (hb : ∀ n ∈ bnd c, (f n).isSome = true) (ih : ∀ z ∈ c.kids, ∀ (f : Int → Option Int) (h : wC z ≤ 1048576)
 (hb : ∀ n ∈ bnd z, (f n).isSome = true), P_c_iRen z f)  : P_c_iRen c f := by
  refine CallOK.ofRun wide (run_c_iRen_s c f) Try.call208 Try.func208 rfl rfl rfl ?_
  try delta a3_c_iRen_s a1_c_iRen_s a2_c_iRen_s a4_c_iRen_s a5_c_iRen_s a6_c_iRen_s
  have g1 := wC_eq c
  have g2 : wC ⟨c.kind, c.number, c.params, c.datum, []⟩ ≤ wC c := by
    have := wC_eq ⟨c.kind, c.number, c.params, c.datum, []⟩
    simp only [sumBy, List.length_nil] at this; omega
  have g3 : (f c.number).isSome = true → c.kind = 2 ∨ c.kind = 4 → (f c.number).getD 0 = rnN f c := by
    intro h1 h2
    unfold rnN; rw [if_pos h2]
    cases e : f c.number with
    | none => rw [e] at h1; cases h1
    | some v => rfl
  have g4 : (f c.number).isSome = false → c.number = rnN f c := by
    intro h1
    unfold rnN
    cases e : f c.number with
    | none => simp
    | some v => rw [e] at h1; cases h1
  with_reducible repeat' (first | apply And.intro | exact flatI | exact flatS | exact rowLens | exact ih | (intro; skip) | apply obsN | apply obsC | apply obA | apply obM | apply obB | apply svA | apply tupA | apply lcA | apply lcS | apply svC | apply liC | apply lbC | apply lsC | apply vIc | apply vBc | apply vSc | apply vLc | apply mapC | apply mIc | apply mOc | apply mSc | apply mLc | apply Hc_iRen_sLa | apply Ec_iRen_sLa | apply Sc_iRen_sLa | apply Hc_iRen_sLb | apply Ec_iRen_sLb | apply Sc_iRen_sLb | apply EW0c_iRen_sLb | apply EW0c_iRen_sLa | apply c_iCopyC)
  all_goals (try simp only [std] at *)
  all_goals (try (first | with_reducible apply c_iCopyC | with_reducible apply ih | (simp only [← List.map_append]; first | with_reducible apply c_iCopyC | with_reducible apply ih)))
  all_goals (try (first | with_reducible rfl | omega | assumption | (refine (decide_eq_true ?_).symm; assumption) | (refine (decide_eq_false ?_).symm; assumption) | (refine rowGet ?_; (first | omega | (simp only [std]; omega) | grind)) | (refine getC ?_ rfl; (first | omega | (simp only [std]; omega) | grind)) | exact look_mI | exact look_mO | exact look_mO1 | exact look_mS | exact look_mL | exact upd_mI | exact upd_mO | exact del_mO | exact upd_mS | exact take_mL | (refine upd_mL ?_; grind) | (refine fill_step ?_ ?_; (first | omega | (simp only [std]; omega) | grind); (first | rfl | exact (Row.eq _).trans rfl)) | (refine fill_init ?_; (first | rfl | exact (Row.eq _).trans rfl)) | (show (_ : St) = _; rfl) | grind [ren_eq, rnN, mapTo_zero, snocI, snocS, rowSnoc]))
  all_goals (first | exact g3 (by assumption) (by omega) | exact g4 (by assumption))
theorem c_iRen (c : Core) : ∀ (f : Int → Option Int) (h : wC c ≤ 1048576) (hb : ∀ n ∈ bnd c, (f n).isSome = true), P_c_iRen c f := Core.ind (P := fun c => ∀ (f : Int → Option Int) (h : wC c ≤ 1048576) (hb : ∀ n ∈ bnd c, (f n).isSome = true), P_c_iRen c f) (fun c ih f h hb => c_iRen_s c f h hb ih) c
def upTo (a : Int) (k : Nat) : List Int := (List.range k).map fun (i : Nat) => a + (i : Int)
theorem upTo_snoc (a : Int) (k : Nat) : upTo a (k + 1) = upTo a k ++ [a + (k : Int)] := by simp [upTo, List.range_succ]
theorem upTo_len (a : Int) (k : Nat) : (upTo a k).length = k := by simp [upTo]
theorem upTo_get (a : Int) {k i : Nat} (h : i < k) : (upTo a k).getD i 0 = a + (i : Int) := by simp [upTo, h]
def fR (a : Int) (F : List Int) (n : Int) : Option Int := if 0 ≤ lookL F n then some (a + lookL F n) else none
theorem fT_upTo (a : Int) (F : List Int) : fT F (upTo a F.length) = fR a F := by
  funext n
  have h := lookL_lt F n
  unfold fT fR
  by_cases h0 : 0 ≤ lookL F n
  · rw [if_pos h0, if_pos h0, upTo_get a (by omega)]
    have : ((lookL F n).toNat : Int) = lookL F n := by omega
    rw [this]
  · rw [if_neg h0, if_neg h0]
theorem fR_nil (a : Int) : zO = fR a [] := by funext n; simp [zO, fR, lookL_nil]
theorem fR_snoc (a : Int) (F : List Int) (x : Int) : upd1 (fR a F) x (some (a + (F.length : Int))) = fR a (F ++ [x]) := by
  funext n
  simp only [upd1, fR, lookL_snoc]
  by_cases e : n = x
  · subst e; simp
  · simp only [if_neg e, if_neg (fun e' : x = n => e e'.symm)]
theorem fR_some {a : Int} {F : List Int} {n : Int} (h : n ∈ F) : (fR a F n).isSome = true := by
  unfold fR
  have h1 := lookL_lt F n
  have h2 : lookL F n ≠ -1 := fun e => (lookL_none F n).1 e h
  rw [if_pos (by omega)]; rfl
def rnOK (c : Core) (a : Int) : Bool := valC c && decide (0 ≤ a ∧ a ≤ 99999)
def rnFree (c : Core) (a : Int) : Bool := (fre c [] []).all fun n => decide (n < a)
def rnFit (c : Core) (a : Int) : Bool := decide (a + ((bnd c).length : Int) ≤ 99999)
def rnC (c : Core) (a : Int) : Core := if rnOK c a = true ∧ rnFree c a = true ∧ rnFit c a = true then ren (fR a (bnd c)) c else c
def rnF (c : Core) (a : Int) : Int := if rnOK c a = true ∧ rnFree c a = true ∧ rnFit c a = true then a + ((bnd c).length : Int) else a
theorem rn_yes {c : Core} {a : Int} (h1 : rnOK c a = true) (h2 : rnFree c a = true) (h3 : rnFit c a = true) : rnC c a = ren (fR a (bnd c)) c ∧ rnF c a = a + ((bnd c).length : Int) := by
  unfold rnC rnF; rw [if_pos ⟨h1, h2, h3⟩, if_pos ⟨h1, h2, h3⟩]; exact ⟨rfl, rfl⟩
theorem rn_no {c : Core} {a : Int} (h : (rnOK c a && rnFree c a && rnFit c a) = false) : rnC c a = c ∧ rnF c a = a := by
  have : ¬ (rnOK c a = true ∧ rnFree c a = true ∧ rnFit c a = true) := by
    rintro ⟨h1, h2, h3⟩; rw [h1, h2, h3] at h; cases h
  unfold rnC rnF; rw [if_neg this, if_neg this]; exact ⟨rfl, rfl⟩
theorem rnFree_no {c : Core} {a : Int} {k : Nat} (h : k < (fre c [] []).length) (e : a ≤ (fre c [] []).getD k 0) : rnFree c a = false := by
  unfold rnFree; rw [List.all_eq_false]
  exact ⟨(fre c [] []).getD k 0, getD_mem' h, by rw [decide_eq_false (Int.not_lt.2 e)]; decide⟩
theorem upTo_nil (a : Int) : upTo a 0 = [] := rfl
abbrev P_c_sRenum (c : Core) (a : Int) : Prop := CallOK Try.prog 101 [] [coreA c, li a] (coreO (rnC c a)) (.tup [coreR (rnC c a) 0, li (rnF c a)])
def Tc_sRenumLb (c : Core) (a : Int) (x0 : SV) : St := St.mk (regsOf 67 [(1, AV.sv (li a)), (2, AV.sv (SV.one (AC.ptr 0 0))), (4, AV.sv (SV.one (AC.ptr 1 0))), (6, AV.sv (SV.one
 (AC.ref 2))), (7, AV.sv (SV.one (AC.ref 3))), (38, AV.sv (SV.one (AC.ref 4))), (39, AV.sv (li (↑(List.length (List.map intC (fre c [] []))) : Int))), (40, AV.sv x0)]) [Ob.box
 (vals (coreF c)), Ob.box [vI 0, vI 0, AC.val (Cell.lit (Value.slice none 0 0)), vI 0, vI 0, vS (ByteArray.mk #[]), AC.val (Cell.lit (Value.slice none 0 0)), AC.val (Cell.lit
 (Value.slice none 0 0))], Ob.arr true 1 (List.map intC (bnd c)), Ob.arr true 1 (List.map intC (upTo a (List.length (bnd c)))), Ob.arr true 1 (List.map intC (fre c [] []))] 0 
def Lc_sRenumLb (c : Core) (a : Int) (k : Nat) : St := Tc_sRenumLb c a (li (↑k : Int)) 
def Ic_sRenumLb (c : Core) (a : Int) : Nat → St → Prop := Head (Lc_sRenumLb c a) (fun k => k ≤ List.length (fre c [] []) ∧ List.length (fre c [] []) ≤ 9223372036854775807 ∧
 (List.all (List.take k (fre c [] [])) fun n => decide (n < a)) = true) fun k => List.length (fre c [] []) - k 
def W0c_sRenumLb (c : Core) (a : Int) : St := St.mk (regsOf 67 [(1, AV.sv (li a)), (2, AV.sv (SV.one (AC.ptr 0 0))), (4, AV.sv (SV.one (AC.ptr 1 0))), (6, AV.sv (SV.one (AC.ref
 2))), (7, AV.sv (SV.one (AC.ref 3)))]) [Ob.box (vals (coreF c)), Ob.box [vI 0, vI 0, AC.val (Cell.lit (Value.slice none 0 0)), vI 0, vI 0, vS (ByteArray.mk #[]), AC.val (Cell.lit
 (Value.slice none 0 0)), AC.val (Cell.lit (Value.slice none 0 0))], Ob.arr true 1 (List.map intC (bnd c)), Ob.arr true 1 (List.map intC (upTo a (List.length (bnd c))))] 0 
def W1c_sRenumLb (c : Core) (a : Int) (x0 : AC) (x1 : AC) (x2 : Ob) (x3 : AC) (x4 : AC) (x5 : AC) (x6 : Ob) (x7 : Ob) (x8 : SV) : St := St.mk (regsOf 67 [(4, AV.sv (SV.one (AC.ptr
 0 0))), (5, AV.sv x8)]) [Ob.box [x0, x1, AC.ref 1, x3, x4, x5, AC.ref 2, AC.ref 3], x2, x6, x7] 0 
def Yc_sRenumLb (c : Core) (a : Int) : List (Prop × AEx × St) := [(rnFree c a = true, AEx.exit 2, W0c_sRenumLb c a), (rnFree c a = false, AEx.ret, W1c_sRenumLb c a (vI (Core.kind
 c)) (vI (Core.number c)) (Ob.arr true 1 (List.map intC (Core.params c))) (vI (Datum.kind (Core.datum c))) (vI (Datum.number (Core.datum c))) (vS (Datum.text (Core.datum c)))
 (Ob.arr true 4 (List.map datumC (Datum.items (Core.datum c)))) (Ob.arr true 8 (List.map coreC (Core.kids c))) (li a))]
def Tc_sRenumLa (c : Core) (a : Int) (x0 : SV) (x1 : Ob) : St := St.mk (regsOf 67 [(1, AV.sv (li a)), (2, AV.sv (SV.one (AC.ptr 0 0))), (4, AV.sv (SV.one (AC.ptr 1 0))), (6, AV.sv
 (SV.one (AC.ref 2))), (7, AV.sv (SV.one (AC.ref 3))), (26, AV.sv (li (↑(List.length (List.map intC (bnd c))) : Int))), (27, AV.sv x0)]) [Ob.box (vals (coreF c)), Ob.box [vI 0, vI
 0, AC.val (Cell.lit (Value.slice none 0 0)), vI 0, vI 0, vS (ByteArray.mk #[]), AC.val (Cell.lit (Value.slice none 0 0)), AC.val (Cell.lit (Value.slice none 0 0))], Ob.arr true 1
 (List.map intC (bnd c)), x1] 0 
def Lc_sRenumLa (c : Core) (a : Int) (k : Nat) : St := Tc_sRenumLa c a (li (↑k : Int)) (Ob.arr true 1 (List.map intC (upTo a k))) 
def Ic_sRenumLa (c : Core) (a : Int) : Nat → St → Prop := Head (Lc_sRenumLa c a) (fun k => k ≤ List.length (bnd c) ∧ List.length (bnd c) ≤ 1048576 ∧ 0 ≤ a ∧ a ≤ 99999) fun k =>
 List.length (bnd c) - k 
def W0c_sRenumLa (c : Core) (a : Int) (x0 : Ob) : St := St.mk (regsOf 67 [(1, AV.sv (li a)), (2, AV.sv (SV.one (AC.ptr 0 0))), (4, AV.sv (SV.one (AC.ptr 1 0))), (6, AV.sv (SV.one
 (AC.ref 2))), (7, AV.sv (SV.one (AC.ref 3)))]) [Ob.box (vals (coreF c)), Ob.box [vI 0, vI 0, AC.val (Cell.lit (Value.slice none 0 0)), vI 0, vI 0, vS (ByteArray.mk #[]), AC.val
 (Cell.lit (Value.slice none 0 0)), AC.val (Cell.lit (Value.slice none 0 0))], Ob.arr true 1 (List.map intC (bnd c)), x0] 0 
def Yc_sRenumLa (c : Core) (a : Int) : List (Prop × AEx × St) := [(True, AEx.exit 0, W0c_sRenumLa c a (Ob.arr true 1 (List.map intC (upTo a (List.length (bnd c))))))]
theorem Hc_sRenumLb {c : Core} {a : Int} {k : Nat} {m : Nat} (h : (fun k => k ≤ List.length (fre c [] []) ∧ List.length (fre c [] []) ≤ 9223372036854775807 ∧ (List.all (List.take k
 (fre c [] [])) fun n => decide (n < a)) = true) k) (hm : (fun k => List.length (fre c [] []) - k) k = m) : Ic_sRenumLb c a m (Lc_sRenumLb c a k) := hm ▸ Head.mk h
theorem Ec_sRenumLb {c : Core} {a : Int} {k : Nat} {x0 : SV} (h0 : x0 = (li (↑k : Int))) : Tc_sRenumLb c a x0 = Lc_sRenumLb c a k := by
  rw [h0]
  rfl
theorem EW1c_sRenumLb {c : Core} {a : Int} {x0 y0 : AC} {x1 y1 : AC} {x2 y2 : Ob} {x3 y3 : AC} {x4 y4 : AC} {x5 y5 : AC} {x6 y6 : Ob} {x7 y7 : Ob} {x8 y8 : SV} (h0 : x0 = y0) (h1 :
 x1 = y1) (h2 : x2 = y2) (h3 : x3 = y3) (h4 : x4 = y4) (h5 : x5 = y5) (h6 : x6 = y6) (h7 : x7 = y7) (h8 : x8 = y8) : W1c_sRenumLb c a x0 x1 x2 x3 x4 x5 x6 x7 x8 = W1c_sRenumLb c a
 y0 y1 y2 y3 y4 y5 y6 y7 y8 := by rw [h0, h1, h2, h3, h4, h5, h6, h7, h8]
theorem run_c_sRenumLb (c : Core) (a : Int) (k : Nat) : aexec Try.prog (loopAt Try.f101 1) (Lc_sRenumLb c a k) [Orc.br [Orc.cells (intC (List.getD (fre c [] []) (Int.toNat (↑k :
 Int)) default)), Orc.br [Orc.call [Mode.rd] (coreO c) (AV.sv (coreR c 0)), Orc.ghost (Ghost.sel [1, 5, 6, 7] [4, 5]), Orc.out 1] [Orc.ghost (Ghost.sel [0, 1, 2, 3, 4] [1, 2, 4, 6,
 7, 38, 39, 40]), Orc.goto (List.length (fre c [] []) - (k + 1)) (Lc_sRenumLb c a (k + 1))]] [Orc.ghost (Ghost.sel [0, 1, 2, 3] [1, 2, 4, 6, 7]), Orc.out 0]] (loopK (Ic_sRenumLb c
 a) (Yc_sRenumLb c a) (List.length (fre c [] []) - k)) = ((decide ((↑k : Int) < (↑(List.length (List.map intC (fre c [] []))) : Int)) = true → (0 ≤ (↑k : Int) ∧ Int.toNat (↑k :
 Int) < List.length (List.map intC (fre c [] []))) ∧ (List.map intC (fre c [] []))[Int.toNat (↑k : Int)]? = some [cI (List.getD (fre c [] []) (Int.toNat (↑k : Int)) 0)] ∧ (decide
 (a ≤ List.getD (fre c [] []) (Int.toNat (↑k : Int)) 0) = true → P_c_sCopyC c ∧ rnFree c a = false ∧ W1c_sRenumLb c a (vI (Core.kind c)) (vI (Core.number c)) (Ob.arr true 1
 (List.map intC (Core.params c))) (vI (Datum.kind (Core.datum c))) (vI (Datum.number (Core.datum c))) (vS (Datum.text (Core.datum c))) (Ob.arr true 4 (List.map datumC (Datum.items
 (Core.datum c)))) (Ob.arr true 8 (List.map coreC (Core.kids c))) (li a) = W1c_sRenumLb c a (vI (Core.kind c)) (vI (Core.number c)) (Ob.arr true 1 (List.map intC (Core.params c)))
 (vI (Datum.kind (Core.datum c))) (vI (Datum.number (Core.datum c))) (vS (Datum.text (Core.datum c))) (Ob.arr true 4 (List.map datumC (Datum.items (Core.datum c)))) (Ob.arr true 8
 (List.map coreC (Core.kids c))) (li a)) ∧ (decide (a ≤ List.getD (fre c [] []) (Int.toNat (↑k : Int)) 0) = false → rng IntKind.i64 ((↑k : Int) + 1) ∧ List.length (fre c [] []) -
 (k + 1) < List.length (fre c [] []) - k ∧ Tc_sRenumLb c a (li ((↑k : Int) + 1)) = Lc_sRenumLb c a (k + 1) ∧ Ic_sRenumLb c a (List.length (fre c [] []) - (k + 1)) (Lc_sRenumLb c a
 (k + 1)))) ∧ (decide ((↑k : Int) < (↑(List.length (List.map intC (fre c [] []))) : Int)) = false → rnFree c a = true ∧ W0c_sRenumLb c a = W0c_sRenumLb c a)) := by kernel_rfl
theorem Hc_sRenumLa {c : Core} {a : Int} {k : Nat} {m : Nat} (h : (fun k => k ≤ List.length (bnd c) ∧ List.length (bnd c) ≤ 1048576 ∧ 0 ≤ a ∧ a ≤ 99999) k) (hm : (fun k =>
 List.length (bnd c) - k) k = m) : Ic_sRenumLa c a m (Lc_sRenumLa c a k) := hm ▸ Head.mk h
theorem Ec_sRenumLa {c : Core} {a : Int} {k : Nat} {x0 : SV} {x1 : Ob} (h0 : x0 = (li (↑k : Int))) (h1 : x1 = (Ob.arr true 1 (List.map intC (upTo a k)))) : Tc_sRenumLa c a x0 x1 =
 Lc_sRenumLa c a k := by
  rw [h0, h1]
  rfl
theorem EW0c_sRenumLa {c : Core} {a : Int} {x0 y0 : Ob} (h0 : x0 = y0) : W0c_sRenumLa c a x0 = W0c_sRenumLa c a y0 := by rw [h0]
theorem run_c_sRenumLa (c : Core) (a : Int) (k : Nat) : aexec Try.prog (loopAt Try.f101 0) (Lc_sRenumLa c a k) [Orc.br [Orc.ghost (Ghost.sel [0, 1, 2, 5] [1, 2, 4, 6, 7, 26, 27]),
 Orc.goto (List.length (bnd c) - (k + 1)) (Lc_sRenumLa c a (k + 1))] [Orc.ghost (Ghost.sel [0, 1, 2, 3] [1, 2, 4, 6, 7]), Orc.out 0]] (loopK (Ic_sRenumLa c a) (Yc_sRenumLa c a)
 (List.length (bnd c) - k)) = ((decide ((↑k : Int) < (↑(List.length (List.map intC (bnd c))) : Int)) = true → rng IntKind.i64 (a + (↑k : Int)) ∧ (List.length (List.map intC (upTo a
 k)) + 1) * 8 ≤ 140737488355328 ∧ rng IntKind.i64 ((↑k : Int) + 1) ∧ List.length (bnd c) - (k + 1) < List.length (bnd c) - k ∧ Tc_sRenumLa c a (li ((↑k : Int) + 1)) (Ob.arr true 1
 (List.map intC (upTo a k) ++ [[cI (a + (↑k : Int))]])) = Lc_sRenumLa c a (k + 1) ∧ Ic_sRenumLa c a (List.length (bnd c) - (k + 1)) (Lc_sRenumLa c a (k + 1))) ∧ (decide ((↑k : Int)
 < (↑(List.length (List.map intC (bnd c))) : Int)) = false → True ∧ W0c_sRenumLa c a (Ob.arr true 1 (List.map intC (upTo a k))) = W0c_sRenumLa c a (Ob.arr true 1 (List.map intC
 (upTo a (List.length (bnd c))))))) := by kernel_rfl
theorem Sc_sRenumLb (c : Core) (a : Int) (h : wC c ≤ 1048576)  : LoopSem Try.prog (loopAt Try.f101 1) (Ic_sRenumLb c a) (Yc_sRenumLb c a) := by
  refine LoopSem.ofHead wide fun k h => ⟨_, _, run_c_sRenumLb c a k, ?_⟩
  have g := @rnFree_no c a k
  with_reducible repeat' (first | apply And.intro | exact flatI | exact flatS | exact rowLens | (intro; skip) | apply obsN | apply obsC | apply obA | apply obM | apply obB | apply svA | apply tupA | apply lcA | apply lcS | apply svC | apply liC | apply lbC | apply lsC | apply vIc | apply vBc | apply vSc | apply vLc | apply mapC | apply mIc | apply mOc | apply mSc | apply mLc | apply Hc_sRenumLa | apply Ec_sRenumLa | apply Hc_sRenumLb | apply Ec_sRenumLb | apply EW1c_sRenumLb | apply EW0c_sRenumLa | apply c_sValid | apply c_l1In | apply c_sCopyC | apply c_sBound | apply c_sFree | apply c_sRen)
  all_goals (try simp only [std] at *)
  all_goals (try (first | with_reducible apply c_sValid | with_reducible apply c_l1In | with_reducible apply c_sCopyC | with_reducible apply c_sBound | with_reducible apply c_sFree | with_reducible apply c_sRen | (simp only [← List.map_append]; first | with_reducible apply c_sValid | with_reducible apply c_l1In | with_reducible apply c_sCopyC | with_reducible apply c_sBound | with_reducible apply c_sFree | with_reducible apply c_sRen)))
  all_goals (try (first | with_reducible rfl | omega | assumption | (refine (decide_eq_true ?_).symm; assumption) | (refine (decide_eq_false ?_).symm; assumption) | (refine rowGet ?_; (first | omega | (simp only [std]; omega) | grind)) | (refine getC ?_ rfl; (first | omega | (simp only [std]; omega) | grind)) | exact look_mI | exact look_mO | exact look_mO1 | exact look_mS | exact look_mL | exact upd_mI | exact upd_mO | exact del_mO | exact upd_mS | exact take_mL | (refine upd_mL ?_; grind) | (refine fill_step ?_ ?_; (first | omega | (simp only [std]; omega) | grind); (first | rfl | exact (Row.eq _).trans rfl)) | (refine fill_init ?_; (first | rfl | exact (Row.eq _).trans rfl)) | (show (_ : St) = _; rfl) | grind [take_get, rnFree, snocI, snocS, rowSnoc]))
theorem Sc_sRenumLa (c : Core) (a : Int) (h : wC c ≤ 1048576)  : LoopSem Try.prog (loopAt Try.f101 0) (Ic_sRenumLa c a) (Yc_sRenumLa c a) := by
  refine LoopSem.ofHead wide fun k h => ⟨_, _, run_c_sRenumLa c a k, ?_⟩
  have g := upTo_len a k
  with_reducible repeat' (first | apply And.intro | exact flatI | exact flatS | exact rowLens | (intro; skip) | apply obsN | apply obsC | apply obA | apply obM | apply obB | apply svA | apply tupA | apply lcA | apply lcS | apply svC | apply liC | apply lbC | apply lsC | apply vIc | apply vBc | apply vSc | apply vLc | apply mapC | apply mIc | apply mOc | apply mSc | apply mLc | apply Hc_sRenumLa | apply Ec_sRenumLa | apply Hc_sRenumLb | apply Ec_sRenumLb | apply Sc_sRenumLb | apply EW1c_sRenumLb | apply EW0c_sRenumLa | apply c_sValid | apply c_l1In | apply c_sCopyC | apply c_sBound | apply c_sFree | apply c_sRen)
  all_goals (try simp only [std] at *)
  all_goals (try (first | with_reducible apply c_sValid | with_reducible apply c_l1In | with_reducible apply c_sCopyC | with_reducible apply c_sBound | with_reducible apply c_sFree | with_reducible apply c_sRen | (simp only [← List.map_append]; first | with_reducible apply c_sValid | with_reducible apply c_l1In | with_reducible apply c_sCopyC | with_reducible apply c_sBound | with_reducible apply c_sFree | with_reducible apply c_sRen)))
  all_goals (try (first | with_reducible rfl | omega | assumption | (refine (decide_eq_true ?_).symm; assumption) | (refine (decide_eq_false ?_).symm; assumption) | (refine rowGet ?_; (first | omega | (simp only [std]; omega) | grind)) | (refine getC ?_ rfl; (first | omega | (simp only [std]; omega) | grind)) | exact look_mI | exact look_mO | exact look_mO1 | exact look_mS | exact look_mL | exact upd_mI | exact upd_mO | exact del_mO | exact upd_mS | exact take_mL | (refine upd_mL ?_; grind) | (refine fill_step ?_ ?_; (first | omega | (simp only [std]; omega) | grind); (first | rfl | exact (Row.eq _).trans rfl)) | (refine fill_init ?_; (first | rfl | exact (Row.eq _).trans rfl)) | (show (_ : St) = _; rfl) | grind [upTo_snoc, snocI, snocS, rowSnoc]))
abbrev a1_c_sRenum (c : Core) (a : Int) := [SV.agg [vI (Core.kind (rnC c a)), vI (Core.number (rnC c a)), AC.ref 0, vI (Datum.kind (Core.datum (rnC c a))), vI (Datum.number
 (Core.datum (rnC c a))), vS (Datum.text (Core.datum (rnC c a))), AC.ref 1, AC.ref 2], li (rnF c a)]
abbrev a2_c_sRenum (c : Core) (a : Int) := [Ob.arr true 1 (List.map intC (Core.params (rnC c a))), Ob.arr true 4 (List.map datumC (Datum.items (Core.datum (rnC c a)))), Ob.arr true
 8 (List.map coreC (Core.kids (rnC c a)))]
abbrev a3_c_sRenum (c : Core) (a : Int) := [SV.agg [vI (Core.kind c), vI (Core.number c), AC.ref 0, vI (Datum.kind (Core.datum c)), vI (Datum.number (Core.datum c)), vS (Datum.text
 (Core.datum c)), AC.ref 1, AC.ref 2], li a]
abbrev a4_c_sRenum (c : Core) := [Ob.arr true 1 (List.map intC (Core.params c)), Ob.arr true 4 (List.map datumC (Datum.items (Core.datum c))), Ob.arr true 8 (List.map coreC
 (Core.kids c))]
abbrev a5_c_sRenum (c : Core) (a : Int) := (ren (fT (bnd c) (upTo a (List.length (bnd c)))) c)
theorem run_c_sRenum (c : Core) (a : Int) : aexec Try.prog (Option.getD (Func.body Try.f101) Code.skip) (entry [] [coreA c, li a] 67) [Orc.call [Mode.rd] [] (AV.sv (lb (valC c))),
 Orc.br [Orc.bool true, Orc.call [Mode.rd] (coreO c) (AV.sv (coreR c 0)), Orc.fin [2, 3, 4]] [Orc.call [Mode.rd, Mode.rd, Mode.rd] [] (AV.sv (lb (decide (0 ≤ a ∧ a ≤ 99999)))),
 Orc.br [Orc.call [Mode.rd] (coreO c) (AV.sv (coreR c 0)), Orc.fin [2, 3, 4]] [Orc.call [Mode.rd, Mode.own true 1] [Ob.dead, Ob.arr true 1 (List.map intC ([] ++ bnd c))] (AV.sv
 (SV.one (AC.ref 1))), Orc.ghost (Ghost.sel [0, 1, 3, 4] [1, 2, 4, 6, 7, 26, 27]), Orc.loop (List.length (bnd c) - 0) (Lc_sRenumLa c a 0) (Ic_sRenumLa c a) [(True, AEx.exit 0,
 W0c_sRenumLa c a (Ob.arr true 1 (List.map intC (upTo a (List.length (bnd c))))), [Orc.call [Mode.rd] [Ob.arr true 1 (List.map intC (fre c [] []))] (AV.sv (SV.one (AC.ref 0))),
 Orc.ghost (Ghost.sel [0, 1, 2, 3, 4] [1, 2, 4, 6, 7, 38, 39, 40]), Orc.loop (List.length (fre c [] []) - 0) (Lc_sRenumLb c a 0) (Ic_sRenumLb c a) [(rnFree c a = true, AEx.exit 2,
 W0c_sRenumLb c a, [Orc.br [Orc.call [Mode.rd] (coreO c) (AV.sv (coreR c 0)), Orc.fin [4, 5, 6]] [Orc.call [Mode.rd, Mode.rd, Mode.rd] (coreO (a5_c_sRenum c a)) (AV.sv (coreR
 (a5_c_sRenum c a) 0)), Orc.fin [4, 5, 6]]]), (rnFree c a = false, AEx.ret, W1c_sRenumLb c a (vI (Core.kind c)) (vI (Core.number c)) (Ob.arr true 1 (List.map intC (Core.params c)))
 (vI (Datum.kind (Core.datum c))) (vI (Datum.number (Core.datum c))) (vS (Datum.text (Core.datum c))) (Ob.arr true 4 (List.map datumC (Datum.items (Core.datum c)))) (Ob.arr true 8
 (List.map coreC (Core.kids c))) (li a), [Orc.fin [1, 2, 3]])]])]]]] (finK Try.prog [ResultVar.cell 4 95, ResultVar.tmp 5] (coreO (rnC c a)) (AV.tup [coreR (rnC c a) 0, li (rnF c
 a)])) = (P_c_sValid c ∧ ((!valC c) = true → true = true ∧ P_c_sCopyC c ∧ ObsEq (a4_c_sRenum c) (a2_c_sRenum c a) ∧ AV.tup (a3_c_sRenum c a) = AV.tup (a1_c_sRenum c a)) ∧ ((!valC
 c) = false → P_c_l1In a 0 99999 ∧ ((!decide (0 ≤ a ∧ a ≤ 99999)) = true → P_c_sCopyC c ∧ ObsEq (a4_c_sRenum c) (a2_c_sRenum c a) ∧ AV.tup (a3_c_sRenum c a) = AV.tup (a1_c_sRenum c
 a)) ∧ ((!decide (0 ≤ a ∧ a ≤ 99999)) = false → P_c_sBound c [] ∧ (List.length (List.map intC (bnd c)) ≤ 9223372036854775807 → Tc_sRenumLa c a (li 0) (Ob.arr true 1 []) =
 Lc_sRenumLa c a 0 ∧ Ic_sRenumLa c a (List.length (bnd c) - 0) (Lc_sRenumLa c a 0) ∧ LoopSem Try.prog (loopAt Try.f101 0) (Ic_sRenumLa c a) (Yc_sRenumLa c a) ∧ (True → P_c_sFree c
 ∧ (List.length (List.map intC (fre c [] [])) ≤ 9223372036854775807 → Tc_sRenumLb c a (li 0) = Lc_sRenumLb c a 0 ∧ Ic_sRenumLb c a (List.length (fre c [] []) - 0) (Lc_sRenumLb c a
 0) ∧ LoopSem Try.prog (loopAt Try.f101 1) (Ic_sRenumLb c a) (Yc_sRenumLb c a) ∧ (rnFree c a = true → List.length (List.map intC (bnd c)) ≤ 9223372036854775807 → rng IntKind.i64 (a
 + (↑(List.length (List.map intC (bnd c))) : Int)) ∧ (decide (99999 < a + (↑(List.length (List.map intC (bnd c))) : Int)) = true → P_c_sCopyC c ∧ ObsEq (a4_c_sRenum c) (a2_c_sRenum
 c a) ∧ AV.tup (a3_c_sRenum c a) = AV.tup (a1_c_sRenum c a)) ∧ (decide (99999 < a + (↑(List.length (List.map intC (bnd c))) : Int)) = false → P_c_sRen c (bnd c) (upTo a
 (List.length (bnd c))) ∧ (List.length (List.map intC (bnd c)) ≤ 9223372036854775807 → rng IntKind.i64 (a + (↑(List.length (List.map intC (bnd c))) : Int)) ∧ ObsEq [Ob.arr true 1
 (List.map intC (Core.params (a5_c_sRenum c a))), Ob.arr true 4 (List.map datumC (Datum.items (Core.datum (a5_c_sRenum c a)))), Ob.arr true 8 (List.map coreC (Core.kids
 (a5_c_sRenum c a)))] (a2_c_sRenum c a) ∧ AV.tup [SV.agg [vI (Core.kind (a5_c_sRenum c a)), vI (Core.number (a5_c_sRenum c a)), AC.ref 0, vI (Datum.kind (Core.datum (a5_c_sRenum c
 a))), vI (Datum.number (Core.datum (a5_c_sRenum c a))), vS (Datum.text (Core.datum (a5_c_sRenum c a))), AC.ref 1, AC.ref 2], li (a + (↑(List.length (List.map intC (bnd c))) :
 Int))] = AV.tup (a1_c_sRenum c a)))) ∧ (rnFree c a = false → ObsEq (a4_c_sRenum c) (a2_c_sRenum c a) ∧ AV.tup (a3_c_sRenum c a) = AV.tup (a1_c_sRenum c a)) ∧ True)) ∧ True)))) :=
 by kernel_rfl
theorem c_sRenum (c : Core) (a : Int) (h : wC c ≤ 1048576)  : P_c_sRenum c a := by
  refine CallOK.ofRun wide (run_c_sRenum c a) Try.call101 Try.func101 rfl rfl rfl ?_
  try delta a1_c_sRenum a2_c_sRenum a3_c_sRenum a4_c_sRenum a5_c_sRenum
  have g1 := bnd_le c
  have g2 := fre_len c [] []
  have g3 := fT_upTo a (bnd c)
  have g4 := upTo_len a (bnd c).length
  have g5 := @rn_yes c a
  have g6 := @rn_no c a
  with_reducible repeat' (first | apply And.intro | exact flatI | exact flatS | exact rowLens | (intro; skip) | apply obsN | apply obsC | apply obA | apply obM | apply obB | apply svA | apply tupA | apply lcA | apply lcS | apply svC | apply liC | apply lbC | apply lsC | apply vIc | apply vBc | apply vSc | apply vLc | apply mapC | apply mIc | apply mOc | apply mSc | apply mLc | apply Hc_sRenumLa | apply Ec_sRenumLa | apply Sc_sRenumLa | apply Hc_sRenumLb | apply Ec_sRenumLb | apply Sc_sRenumLb | apply EW1c_sRenumLb | apply EW0c_sRenumLa | apply c_sValid | apply c_l1In | apply c_sCopyC | apply c_sBound | apply c_sFree | apply c_sRen)
  all_goals (try simp only [std] at *)
  all_goals (try (first | with_reducible apply c_sValid | with_reducible apply c_l1In | with_reducible apply c_sCopyC | with_reducible apply c_sBound | with_reducible apply c_sFree | with_reducible apply c_sRen | (simp only [← List.map_append]; first | with_reducible apply c_sValid | with_reducible apply c_l1In | with_reducible apply c_sCopyC | with_reducible apply c_sBound | with_reducible apply c_sFree | with_reducible apply c_sRen)))
  all_goals (try (first | with_reducible rfl | omega | assumption | (refine (decide_eq_true ?_).symm; assumption) | (refine (decide_eq_false ?_).symm; assumption) | (refine rowGet ?_; (first | omega | (simp only [std]; omega) | grind)) | (refine getC ?_ rfl; (first | omega | (simp only [std]; omega) | grind)) | exact look_mI | exact look_mO | exact look_mO1 | exact look_mS | exact look_mL | exact upd_mI | exact upd_mO | exact del_mO | exact upd_mS | exact take_mL | (refine upd_mL ?_; grind) | (refine fill_step ?_ ?_; (first | omega | (simp only [std]; omega) | grind); (first | rfl | exact (Row.eq _).trans rfl)) | (refine fill_init ?_; (first | rfl | exact (Row.eq _).trans rfl)) | (show (_ : St) = _; rfl) | grind [rnOK, rnFit, upTo_nil, snocI, snocS, rowSnoc]))
abbrev P_c_iRenum (c : Core) (a : Int) : Prop := CallOK Try.prog 102 [] [coreA c, li a] (coreO (rnC c a)) (.tup [coreR (rnC c a) 0, li (rnF c a)])
def Tc_iRenumLb (c : Core) (a : Int) (x0 : SV) (x1 : Ob) : St := St.mk (regsOf 71 [(1, AV.sv (li a)), (2, AV.sv (SV.one (AC.ptr 0 0))), (4, AV.sv (SV.one (AC.ptr 1 0))), (6, AV.sv
 (SV.one (AC.ref 2))), (9, AV.sv (SV.one (AC.mref 3))), (51, AV.sv (SV.one (AC.ref 2))), (52, AV.sv (li (↑(List.length (List.map intC (bnd c))) : Int))), (53, AV.sv x0)]) [Ob.box
 (vals (coreF c)), Ob.box [vI 0, vI 0, AC.val (Cell.lit (Value.slice none 0 0)), vI 0, vI 0, vS (ByteArray.mk #[]), AC.val (Cell.lit (Value.slice none 0 0)), AC.val (Cell.lit
 (Value.slice none 0 0))], Ob.arr true 1 (List.map intC (bnd c)), x1] 0 
def Lc_iRenumLb (c : Core) (a : Int) (k : Nat) : St := Tc_iRenumLb c a (li (↑k : Int)) (Ob.map false kO (mO (fR a (List.take k (bnd c))))) 
def Ic_iRenumLb (c : Core) (a : Int) : Nat → St → Prop := Head (Lc_iRenumLb c a) (fun k => k ≤ List.length (bnd c) ∧ List.length (bnd c) ≤ 1048576 ∧ 0 ≤ a ∧ a ≤ 99999) fun k =>
 List.length (bnd c) - k 
def W0c_iRenumLb (c : Core) (a : Int) (x0 : Ob) : St := St.mk (regsOf 71 [(1, AV.sv (li a)), (2, AV.sv (SV.one (AC.ptr 0 0))), (4, AV.sv (SV.one (AC.ptr 1 0))), (6, AV.sv (SV.one
 (AC.ref 2))), (9, AV.sv (SV.one (AC.mref 3)))]) [Ob.box (vals (coreF c)), Ob.box [vI 0, vI 0, AC.val (Cell.lit (Value.slice none 0 0)), vI 0, vI 0, vS (ByteArray.mk #[]), AC.val
 (Cell.lit (Value.slice none 0 0)), AC.val (Cell.lit (Value.slice none 0 0))], Ob.arr true 1 (List.map intC (bnd c)), x0] 0 
def Yc_iRenumLb (c : Core) (a : Int) : List (Prop × AEx × St) := [(True, AEx.exit 2, W0c_iRenumLb c a (Ob.map false kO (mO (fR a (bnd c)))))]
def Tc_iRenumLa (c : Core) (a : Int) (x0 : SV) : St := St.mk (regsOf 71 [(1, AV.sv (li a)), (2, AV.sv (SV.one (AC.ptr 0 0))), (4, AV.sv (SV.one (AC.ptr 1 0))), (6, AV.sv (SV.one
 (AC.ref 2))), (29, AV.sv (SV.one (AC.ref 3))), (30, AV.sv (li (↑(List.length (List.map intC (fre c [] []))) : Int))), (31, AV.sv x0)]) [Ob.box (vals (coreF c)), Ob.box [vI 0, vI
 0, AC.val (Cell.lit (Value.slice none 0 0)), vI 0, vI 0, vS (ByteArray.mk #[]), AC.val (Cell.lit (Value.slice none 0 0)), AC.val (Cell.lit (Value.slice none 0 0))], Ob.arr true 1
 (List.map intC (bnd c)), Ob.arr true 1 (List.map intC (fre c [] []))] 0 
def Lc_iRenumLa (c : Core) (a : Int) (k : Nat) : St := Tc_iRenumLa c a (li (↑k : Int)) 
def Ic_iRenumLa (c : Core) (a : Int) : Nat → St → Prop := Head (Lc_iRenumLa c a) (fun k => k ≤ List.length (fre c [] []) ∧ List.length (fre c [] []) ≤ 9223372036854775807 ∧
 (List.all (List.take k (fre c [] [])) fun n => decide (n < a)) = true) fun k => List.length (fre c [] []) - k 
def W0c_iRenumLa (c : Core) (a : Int) : St := St.mk (regsOf 71 [(1, AV.sv (li a)), (2, AV.sv (SV.one (AC.ptr 0 0))), (4, AV.sv (SV.one (AC.ptr 1 0))), (6, AV.sv (SV.one (AC.ref
 2)))]) [Ob.box (vals (coreF c)), Ob.box [vI 0, vI 0, AC.val (Cell.lit (Value.slice none 0 0)), vI 0, vI 0, vS (ByteArray.mk #[]), AC.val (Cell.lit (Value.slice none 0 0)), AC.val
 (Cell.lit (Value.slice none 0 0))], Ob.arr true 1 (List.map intC (bnd c))] 0 
def W1c_iRenumLa (c : Core) (a : Int) (x0 : AC) (x1 : AC) (x2 : Ob) (x3 : AC) (x4 : AC) (x5 : AC) (x6 : Ob) (x7 : Ob) (x8 : SV) : St := St.mk (regsOf 71 [(4, AV.sv (SV.one (AC.ptr
 0 0))), (5, AV.sv x8)]) [Ob.box [x0, x1, AC.ref 1, x3, x4, x5, AC.ref 2, AC.ref 3], x2, x6, x7] 0 
def Yc_iRenumLa (c : Core) (a : Int) : List (Prop × AEx × St) := [(rnFree c a = true, AEx.exit 0, W0c_iRenumLa c a), (rnFree c a = false, AEx.ret, W1c_iRenumLa c a (vI (Core.kind
 c)) (vI (Core.number c)) (Ob.arr true 1 (List.map intC (Core.params c))) (vI (Datum.kind (Core.datum c))) (vI (Datum.number (Core.datum c))) (vS (Datum.text (Core.datum c)))
 (Ob.arr true 4 (List.map datumC (Datum.items (Core.datum c)))) (Ob.arr true 8 (List.map coreC (Core.kids c))) (li a))]
theorem Hc_iRenumLb {c : Core} {a : Int} {k : Nat} {m : Nat} (h : (fun k => k ≤ List.length (bnd c) ∧ List.length (bnd c) ≤ 1048576 ∧ 0 ≤ a ∧ a ≤ 99999) k) (hm : (fun k =>
 List.length (bnd c) - k) k = m) : Ic_iRenumLb c a m (Lc_iRenumLb c a k) := hm ▸ Head.mk h
theorem Ec_iRenumLb {c : Core} {a : Int} {k : Nat} {x0 : SV} {x1 : Ob} (h0 : x0 = (li (↑k : Int))) (h1 : x1 = (Ob.map false kO (mO (fR a (List.take k (bnd c)))))) : Tc_iRenumLb c a
 x0 x1 = Lc_iRenumLb c a k := by
  rw [h0, h1]
  rfl
theorem EW0c_iRenumLb {c : Core} {a : Int} {x0 y0 : Ob} (h0 : x0 = y0) : W0c_iRenumLb c a x0 = W0c_iRenumLb c a y0 := by rw [h0]
theorem run_c_iRenumLb (c : Core) (a : Int) (k : Nat) : aexec Try.prog (loopAt Try.f102 1) (Lc_iRenumLb c a k) [Orc.br [Orc.cells (intC (List.getD (bnd c) (Int.toNat (↑k : Int))
 default)), Orc.upd (mO (upd1 (fR a (List.take k (bnd c))) (List.getD (bnd c) (Int.toNat (↑k : Int)) 0) (some (a + (↑k : Int))))), Orc.ghost (Ghost.sel [0, 1, 2, 3] [1, 2, 4, 6, 9,
 51, 52, 53]), Orc.goto (List.length (bnd c) - (k + 1)) (Lc_iRenumLb c a (k + 1))] [Orc.ghost (Ghost.sel [0, 1, 2, 3] [1, 2, 4, 6, 9]), Orc.out 0]] (loopK (Ic_iRenumLb c a)
 (Yc_iRenumLb c a) (List.length (bnd c) - k)) = ((decide ((↑k : Int) < (↑(List.length (List.map intC (bnd c))) : Int)) = true → (0 ≤ (↑k : Int) ∧ Int.toNat (↑k : Int) < List.length
 (List.map intC (bnd c))) ∧ (List.map intC (bnd c))[Int.toNat (↑k : Int)]? = some [cI (List.getD (bnd c) (Int.toNat (↑k : Int)) 0)] ∧ rng IntKind.i64 (a + (↑k : Int)) ∧ false =
 false ∧ UpdF (MK.d kO) (mO (fR a (List.take k (bnd c)))) (mO (upd1 (fR a (List.take k (bnd c))) (List.getD (bnd c) (Int.toNat (↑k : Int)) 0) (some (a + (↑k : Int))))) (Value.int
 IntKind.i64 (List.getD (bnd c) (Int.toNat (↑k : Int)) 0)) (some (cI (a + (↑k : Int)))) ∧ rng IntKind.i64 ((↑k : Int) + 1) ∧ List.length (bnd c) - (k + 1) < List.length (bnd c) - k
 ∧ Tc_iRenumLb c a (li ((↑k : Int) + 1)) (Ob.map false kO (mO (upd1 (fR a (List.take k (bnd c))) (List.getD (bnd c) (Int.toNat (↑k : Int)) 0) (some (a + (↑k : Int)))))) =
 Lc_iRenumLb c a (k + 1) ∧ Ic_iRenumLb c a (List.length (bnd c) - (k + 1)) (Lc_iRenumLb c a (k + 1))) ∧ (decide ((↑k : Int) < (↑(List.length (List.map intC (bnd c))) : Int)) =
 false → True ∧ W0c_iRenumLb c a (Ob.map false kO (mO (fR a (List.take k (bnd c))))) = W0c_iRenumLb c a (Ob.map false kO (mO (fR a (bnd c)))))) := by kernel_rfl
theorem Hc_iRenumLa {c : Core} {a : Int} {k : Nat} {m : Nat} (h : (fun k => k ≤ List.length (fre c [] []) ∧ List.length (fre c [] []) ≤ 9223372036854775807 ∧ (List.all (List.take k
 (fre c [] [])) fun n => decide (n < a)) = true) k) (hm : (fun k => List.length (fre c [] []) - k) k = m) : Ic_iRenumLa c a m (Lc_iRenumLa c a k) := hm ▸ Head.mk h
theorem Ec_iRenumLa {c : Core} {a : Int} {k : Nat} {x0 : SV} (h0 : x0 = (li (↑k : Int))) : Tc_iRenumLa c a x0 = Lc_iRenumLa c a k := by
  rw [h0]
  rfl
theorem EW1c_iRenumLa {c : Core} {a : Int} {x0 y0 : AC} {x1 y1 : AC} {x2 y2 : Ob} {x3 y3 : AC} {x4 y4 : AC} {x5 y5 : AC} {x6 y6 : Ob} {x7 y7 : Ob} {x8 y8 : SV} (h0 : x0 = y0) (h1 :
 x1 = y1) (h2 : x2 = y2) (h3 : x3 = y3) (h4 : x4 = y4) (h5 : x5 = y5) (h6 : x6 = y6) (h7 : x7 = y7) (h8 : x8 = y8) : W1c_iRenumLa c a x0 x1 x2 x3 x4 x5 x6 x7 x8 = W1c_iRenumLa c a
 y0 y1 y2 y3 y4 y5 y6 y7 y8 := by rw [h0, h1, h2, h3, h4, h5, h6, h7, h8]
theorem run_c_iRenumLa (c : Core) (a : Int) (k : Nat) : aexec Try.prog (loopAt Try.f102 0) (Lc_iRenumLa c a k) [Orc.br [Orc.cells (intC (List.getD (fre c [] []) (Int.toNat (↑k :
 Int)) default)), Orc.br [Orc.call [Mode.rd] (coreO c) (AV.sv (coreR c 0)), Orc.ghost (Ghost.sel [1, 4, 5, 6] [4, 5]), Orc.out 1] [Orc.ghost (Ghost.sel [0, 1, 2, 3] [1, 2, 4, 6,
 29, 30, 31]), Orc.goto (List.length (fre c [] []) - (k + 1)) (Lc_iRenumLa c a (k + 1))]] [Orc.ghost (Ghost.sel [0, 1, 2] [1, 2, 4, 6]), Orc.out 0]] (loopK (Ic_iRenumLa c a)
 (Yc_iRenumLa c a) (List.length (fre c [] []) - k)) = ((decide ((↑k : Int) < (↑(List.length (List.map intC (fre c [] []))) : Int)) = true → (0 ≤ (↑k : Int) ∧ Int.toNat (↑k : Int) <
 List.length (List.map intC (fre c [] []))) ∧ (List.map intC (fre c [] []))[Int.toNat (↑k : Int)]? = some [cI (List.getD (fre c [] []) (Int.toNat (↑k : Int)) 0)] ∧ (decide (a ≤
 List.getD (fre c [] []) (Int.toNat (↑k : Int)) 0) = true → P_c_iCopyC c ∧ rnFree c a = false ∧ W1c_iRenumLa c a (vI (Core.kind c)) (vI (Core.number c)) (Ob.arr true 1 (List.map
 intC (Core.params c))) (vI (Datum.kind (Core.datum c))) (vI (Datum.number (Core.datum c))) (vS (Datum.text (Core.datum c))) (Ob.arr true 4 (List.map datumC (Datum.items
 (Core.datum c)))) (Ob.arr true 8 (List.map coreC (Core.kids c))) (li a) = W1c_iRenumLa c a (vI (Core.kind c)) (vI (Core.number c)) (Ob.arr true 1 (List.map intC (Core.params c)))
 (vI (Datum.kind (Core.datum c))) (vI (Datum.number (Core.datum c))) (vS (Datum.text (Core.datum c))) (Ob.arr true 4 (List.map datumC (Datum.items (Core.datum c)))) (Ob.arr true 8
 (List.map coreC (Core.kids c))) (li a)) ∧ (decide (a ≤ List.getD (fre c [] []) (Int.toNat (↑k : Int)) 0) = false → rng IntKind.i64 ((↑k : Int) + 1) ∧ List.length (fre c [] []) -
 (k + 1) < List.length (fre c [] []) - k ∧ Tc_iRenumLa c a (li ((↑k : Int) + 1)) = Lc_iRenumLa c a (k + 1) ∧ Ic_iRenumLa c a (List.length (fre c [] []) - (k + 1)) (Lc_iRenumLa c a
 (k + 1)))) ∧ (decide ((↑k : Int) < (↑(List.length (List.map intC (fre c [] []))) : Int)) = false → rnFree c a = true ∧ W0c_iRenumLa c a = W0c_iRenumLa c a)) := by kernel_rfl
theorem Sc_iRenumLb (c : Core) (a : Int) (h : wC c ≤ 1048576)  : LoopSem Try.prog (loopAt Try.f102 1) (Ic_iRenumLb c a) (Yc_iRenumLb c a) := by
  refine LoopSem.ofHead wide fun k h => ⟨_, _, run_c_iRenumLb c a k, ?_⟩
  have g1 := @fR_snoc a ((bnd c).take k) ((bnd c).getD k 0)
  have g2 := @takeI (bnd c) k
  have g3 : ∀ j, (bnd c).length ≤ j → (bnd c).take j = bnd c := fun j h => List.take_of_length_le h
  have g4 : k ≤ (bnd c).length → ((bnd c).take k).length = k := fun h => by rw [List.length_take]; omega
  with_reducible repeat' (first | apply And.intro | exact flatI | exact flatS | exact rowLens | (intro; skip) | apply obsN | apply obsC | apply obA | apply obM | apply obB | apply svA | apply tupA | apply lcA | apply lcS | apply svC | apply liC | apply lbC | apply lsC | apply vIc | apply vBc | apply vSc | apply vLc | apply mapC | apply mIc | apply mOc | apply mSc | apply mLc | apply Hc_iRenumLa | apply Ec_iRenumLa | apply Hc_iRenumLb | apply Ec_iRenumLb | apply EW0c_iRenumLb | apply EW1c_iRenumLa | apply c_iValid | apply c_iCopyC | apply c_iBoundVariables | apply c_iFree | apply c_iRen)
  all_goals (try simp only [std] at *)
  all_goals (try (first | with_reducible apply c_iValid | with_reducible apply c_iCopyC | with_reducible apply c_iBoundVariables | with_reducible apply c_iFree | with_reducible apply c_iRen | (simp only [← List.map_append]; first | with_reducible apply c_iValid | with_reducible apply c_iCopyC | with_reducible apply c_iBoundVariables | with_reducible apply c_iFree | with_reducible apply c_iRen)))
  all_goals (try (first | with_reducible rfl | omega | assumption | (refine (decide_eq_true ?_).symm; assumption) | (refine (decide_eq_false ?_).symm; assumption) | (refine rowGet ?_; (first | omega | (simp only [std]; omega) | grind)) | (refine getC ?_ rfl; (first | omega | (simp only [std]; omega) | grind)) | exact look_mI | exact look_mO | exact look_mO1 | exact look_mS | exact look_mL | exact upd_mI | exact upd_mO | exact del_mO | exact upd_mS | exact take_mL | (refine upd_mL ?_; grind) | (refine fill_step ?_ ?_; (first | omega | (simp only [std]; omega) | grind); (first | rfl | exact (Row.eq _).trans rfl)) | (refine fill_init ?_; (first | rfl | exact (Row.eq _).trans rfl)) | (show (_ : St) = _; rfl) | grind [snocI, snocS, rowSnoc]))
theorem Sc_iRenumLa (c : Core) (a : Int) (h : wC c ≤ 1048576)  : LoopSem Try.prog (loopAt Try.f102 0) (Ic_iRenumLa c a) (Yc_iRenumLa c a) := by
  refine LoopSem.ofHead wide fun k h => ⟨_, _, run_c_iRenumLa c a k, ?_⟩
  have g := @rnFree_no c a k
  with_reducible repeat' (first | apply And.intro | exact flatI | exact flatS | exact rowLens | (intro; skip) | apply obsN | apply obsC | apply obA | apply obM | apply obB | apply svA | apply tupA | apply lcA | apply lcS | apply svC | apply liC | apply lbC | apply lsC | apply vIc | apply vBc | apply vSc | apply vLc | apply mapC | apply mIc | apply mOc | apply mSc | apply mLc | apply Hc_iRenumLa | apply Ec_iRenumLa | apply Hc_iRenumLb | apply Ec_iRenumLb | apply Sc_iRenumLb | apply EW0c_iRenumLb | apply EW1c_iRenumLa | apply c_iValid | apply c_iCopyC | apply c_iBoundVariables | apply c_iFree | apply c_iRen)
  all_goals (try simp only [std] at *)
  all_goals (try (first | with_reducible apply c_iValid | with_reducible apply c_iCopyC | with_reducible apply c_iBoundVariables | with_reducible apply c_iFree | with_reducible apply c_iRen | (simp only [← List.map_append]; first | with_reducible apply c_iValid | with_reducible apply c_iCopyC | with_reducible apply c_iBoundVariables | with_reducible apply c_iFree | with_reducible apply c_iRen)))
  all_goals (try (first | with_reducible rfl | omega | assumption | (refine (decide_eq_true ?_).symm; assumption) | (refine (decide_eq_false ?_).symm; assumption) | (refine rowGet ?_; (first | omega | (simp only [std]; omega) | grind)) | (refine getC ?_ rfl; (first | omega | (simp only [std]; omega) | grind)) | exact look_mI | exact look_mO | exact look_mO1 | exact look_mS | exact look_mL | exact upd_mI | exact upd_mO | exact del_mO | exact upd_mS | exact take_mL | (refine upd_mL ?_; grind) | (refine fill_step ?_ ?_; (first | omega | (simp only [std]; omega) | grind); (first | rfl | exact (Row.eq _).trans rfl)) | (refine fill_init ?_; (first | rfl | exact (Row.eq _).trans rfl)) | (show (_ : St) = _; rfl) | grind [take_get, rnFree, snocI, snocS, rowSnoc]))
abbrev a1_c_iRenum (c : Core) (a : Int) := [SV.agg [vI (Core.kind (rnC c a)), vI (Core.number (rnC c a)), AC.ref 0, vI (Datum.kind (Core.datum (rnC c a))), vI (Datum.number
 (Core.datum (rnC c a))), vS (Datum.text (Core.datum (rnC c a))), AC.ref 1, AC.ref 2], li (rnF c a)]
abbrev a2_c_iRenum (c : Core) (a : Int) := [Ob.arr true 1 (List.map intC (Core.params (rnC c a))), Ob.arr true 4 (List.map datumC (Datum.items (Core.datum (rnC c a)))), Ob.arr true
 8 (List.map coreC (Core.kids (rnC c a)))]
abbrev a3_c_iRenum (c : Core) (a : Int) := [SV.agg [vI (Core.kind c), vI (Core.number c), AC.ref 0, vI (Datum.kind (Core.datum c)), vI (Datum.number (Core.datum c)), vS (Datum.text
 (Core.datum c)), AC.ref 1, AC.ref 2], li a]
abbrev a4_c_iRenum (c : Core) := [Ob.arr true 1 (List.map intC (Core.params c)), Ob.arr true 4 (List.map datumC (Datum.items (Core.datum c))), Ob.arr true 8 (List.map coreC
 (Core.kids c))]
theorem run_c_iRenum (c : Core) (a : Int) : aexec Try.prog (Option.getD (Func.body Try.f102) Code.skip) (entry [] [coreA c, li a] 71) [Orc.call [Mode.rd] [] (AV.sv (lb (valC c))),
 Orc.br [Orc.bool true, Orc.bool true, Orc.call [Mode.rd] (coreO c) (AV.sv (coreR c 0)), Orc.fin [2, 3, 4]] [Orc.br [Orc.bool true, Orc.call [Mode.rd] (coreO c) (AV.sv (coreR c
 0)), Orc.fin [2, 3, 4]] [Orc.br [Orc.call [Mode.rd] (coreO c) (AV.sv (coreR c 0)), Orc.fin [2, 3, 4]] [Orc.call [Mode.rd] [Ob.arr true 1 (List.map intC (bnd c))] (AV.sv (SV.one
 (AC.ref 0))), Orc.call [Mode.rd] [Ob.arr true 1 (List.map intC (fre c [] []))] (AV.sv (SV.one (AC.ref 0))), Orc.ghost (Ghost.sel [0, 1, 2, 3] [1, 2, 4, 6, 29, 30, 31]), Orc.loop
 (List.length (fre c [] []) - 0) (Lc_iRenumLa c a 0) (Ic_iRenumLa c a) [(rnFree c a = true, AEx.exit 0, W0c_iRenumLa c a, [Orc.br [Orc.call [Mode.rd] (coreO c) (AV.sv (coreR c 0)),
 Orc.fin [3, 4, 5]] [Orc.mkmap kO, Orc.ghost (Ghost.sel [0, 1, 2, 3] [1, 2, 4, 6, 9, 51, 52, 53]), Orc.loop (List.length (bnd c) - 0) (Lc_iRenumLb c a 0) (Ic_iRenumLb c a) [(True,
 AEx.exit 2, W0c_iRenumLb c a (Ob.map false kO (mO (fR a (bnd c)))), [Orc.call [Mode.rd, Mode.map] ([Ob.map false kO (mO (fR a (bnd c)))] ++ coreO (ren (fR a (bnd c)) c)) (AV.sv
 (coreR (ren (fR a (bnd c)) c) 1)), Orc.fin [5, 6, 7]])]]]), (rnFree c a = false, AEx.ret, W1c_iRenumLa c a (vI (Core.kind c)) (vI (Core.number c)) (Ob.arr true 1 (List.map intC
 (Core.params c))) (vI (Datum.kind (Core.datum c))) (vI (Datum.number (Core.datum c))) (vS (Datum.text (Core.datum c))) (Ob.arr true 4 (List.map datumC (Datum.items (Core.datum
 c)))) (Ob.arr true 8 (List.map coreC (Core.kids c))) (li a), [Orc.fin [1, 2, 3]])]]]]] (finK Try.prog [ResultVar.cell 4 95, ResultVar.tmp 5] (coreO (rnC c a)) (AV.tup [coreR (rnC
 c a) 0, li (rnF c a)])) = (P_c_iValid c ∧ ((!valC c) = true → true = true ∧ true = true ∧ P_c_iCopyC c ∧ ObsEq (a4_c_iRenum c) (a2_c_iRenum c a) ∧ AV.tup (a3_c_iRenum c a) =
 AV.tup (a1_c_iRenum c a)) ∧ ((!valC c) = false → (decide (a < 0) = true → true = true ∧ P_c_iCopyC c ∧ ObsEq (a4_c_iRenum c) (a2_c_iRenum c a) ∧ AV.tup (a3_c_iRenum c a) = AV.tup
 (a1_c_iRenum c a)) ∧ (decide (a < 0) = false → (decide (99999 < a) = true → P_c_iCopyC c ∧ ObsEq (a4_c_iRenum c) (a2_c_iRenum c a) ∧ AV.tup (a3_c_iRenum c a) = AV.tup (a1_c_iRenum
 c a)) ∧ (decide (99999 < a) = false → P_c_iBoundVariables c ∧ P_c_iFree c ∧ (List.length (List.map intC (fre c [] [])) ≤ 9223372036854775807 → Tc_iRenumLa c a (li 0) = Lc_iRenumLa
 c a 0 ∧ Ic_iRenumLa c a (List.length (fre c [] []) - 0) (Lc_iRenumLa c a 0) ∧ LoopSem Try.prog (loopAt Try.f102 0) (Ic_iRenumLa c a) (Yc_iRenumLa c a) ∧ (rnFree c a = true →
 List.length (List.map intC (bnd c)) ≤ 9223372036854775807 → rng IntKind.i64 (a + (↑(List.length (List.map intC (bnd c))) : Int)) ∧ (decide (99999 < a + (↑(List.length (List.map
 intC (bnd c))) : Int)) = true → P_c_iCopyC c ∧ ObsEq (a4_c_iRenum c) (a2_c_iRenum c a) ∧ AV.tup (a3_c_iRenum c a) = AV.tup (a1_c_iRenum c a)) ∧ (decide (99999 < a + (↑(List.length
 (List.map intC (bnd c))) : Int)) = false → List.length (List.map intC (bnd c)) ≤ 9223372036854775807 → Tc_iRenumLb c a (li 0) (Ob.map false kO (mO zO)) = Lc_iRenumLb c a 0 ∧
 Ic_iRenumLb c a (List.length (bnd c) - 0) (Lc_iRenumLb c a 0) ∧ LoopSem Try.prog (loopAt Try.f102 1) (Ic_iRenumLb c a) (Yc_iRenumLb c a) ∧ (True → P_c_iRen c (fR a (bnd c)) ∧
 (List.length (List.map intC (bnd c)) ≤ 9223372036854775807 → rng IntKind.i64 (a + (↑(List.length (List.map intC (bnd c))) : Int)) ∧ ObsEq [Ob.arr true 1 (List.map intC
 (Core.params (ren (fR a (bnd c)) c))), Ob.arr true 4 (List.map datumC (Datum.items (Core.datum (ren (fR a (bnd c)) c)))), Ob.arr true 8 (List.map coreC (Core.kids (ren (fR a (bnd
 c)) c)))] (a2_c_iRenum c a) ∧ AV.tup [SV.agg [vI (Core.kind (ren (fR a (bnd c)) c)), vI (Core.number (ren (fR a (bnd c)) c)), AC.ref 0, vI (Datum.kind (Core.datum (ren (fR a (bnd
 c)) c))), vI (Datum.number (Core.datum (ren (fR a (bnd c)) c))), vS (Datum.text (Core.datum (ren (fR a (bnd c)) c))), AC.ref 1, AC.ref 2], li (a + (↑(List.length (List.map intC
 (bnd c))) : Int))] = AV.tup (a1_c_iRenum c a))) ∧ True)) ∧ (rnFree c a = false → ObsEq (a4_c_iRenum c) (a2_c_iRenum c a) ∧ AV.tup (a3_c_iRenum c a) = AV.tup (a1_c_iRenum c a)) ∧
 True))))) := by kernel_rfl
theorem c_iRenum (c : Core) (a : Int) (h : wC c ≤ 1048576)  : P_c_iRenum c a := by
  refine CallOK.ofRun wide (run_c_iRenum c a) Try.call102 Try.func102 rfl rfl rfl ?_
  try delta a1_c_iRenum a2_c_iRenum a3_c_iRenum a4_c_iRenum
  have g1 := bnd_le c
  have g2 := fre_len c [] []
  have g3 := fun n => @fR_some a (bnd c) n
  have g5 := @rn_yes c a
  have g6 := @rn_no c a
  have g7 : (bnd c).take 0 = [] := rfl
  with_reducible repeat' (first | apply And.intro | exact flatI | exact flatS | exact rowLens | (intro; skip) | apply obsN | apply obsC | apply obA | apply obM | apply obB | apply svA | apply tupA | apply lcA | apply lcS | apply svC | apply liC | apply lbC | apply lsC | apply vIc | apply vBc | apply vSc | apply vLc | apply mapC | apply mIc | apply mOc | apply mSc | apply mLc | apply Hc_iRenumLa | apply Ec_iRenumLa | apply Sc_iRenumLa | apply Hc_iRenumLb | apply Ec_iRenumLb | apply Sc_iRenumLb | apply EW0c_iRenumLb | apply EW1c_iRenumLa | apply c_iValid | apply c_iCopyC | apply c_iBoundVariables | apply c_iFree | apply c_iRen)
  all_goals (try simp only [std] at *)
  all_goals (try (first | with_reducible apply c_iValid | with_reducible apply c_iCopyC | with_reducible apply c_iBoundVariables | with_reducible apply c_iFree | with_reducible apply c_iRen | (simp only [← List.map_append]; first | with_reducible apply c_iValid | with_reducible apply c_iCopyC | with_reducible apply c_iBoundVariables | with_reducible apply c_iFree | with_reducible apply c_iRen)))
  all_goals (try (first | with_reducible rfl | omega | assumption | (refine (decide_eq_true ?_).symm; assumption) | (refine (decide_eq_false ?_).symm; assumption) | (refine rowGet ?_; (first | omega | (simp only [std]; omega) | grind)) | (refine getC ?_ rfl; (first | omega | (simp only [std]; omega) | grind)) | exact look_mI | exact look_mO | exact look_mO1 | exact look_mS | exact look_mL | exact upd_mI | exact upd_mO | exact del_mO | exact upd_mS | exact take_mL | (refine upd_mL ?_; grind) | (refine fill_step ?_ ?_; (first | omega | (simp only [std]; omega) | grind); (first | rfl | exact (Row.eq _).trans rfl)) | (refine fill_init ?_; (first | rfl | exact (Row.eq _).trans rfl)) | (show (_ : St) = _; rfl) | grind [rnOK, rnFit, fR_nil, snocI, snocS, rowSnoc]))
end Go.Proofs.Ytehpjofddjmbpaa
end
section
namespace Go.Proofs.Ytehpjofddjmbpaa
open Go Go.Proofs.Ytehpjofddjmbpaa.Ab
set_option linter.unusedVariables false
set_option linter.unusedSimpArgs false
set_option maxHeartbeats 4000000
abbrev P_c_markIntS (L : List Int) (n : Int) : Prop := CallOK Try.prog 31 [.arr true 1 (L.map intC)] [.one (.ref 0), li n] [.arr true 1 ((seqM mkI cOne L n).map intC)] (.sv (li (n + L.length)))
def Tc_markIntSLa (L : List Int) (n : Int) (x0 : SV) (x1 : SV) (x2 : Ob) : St := St.mk (regsOf 19 [(0, AV.sv (SV.one (AC.ref 0))), (1, AV.sv x1), (5, AV.sv x0)]) [x2] 1 
def Lc_markIntSLa (L : List Int) (n : Int) (k : Nat) : St := Tc_markIntSLa L n (li (↑k : Int)) (li (n + (↑k : Int))) (Ob.arr true 1 (List.map intC (mkTo mkI cOne L n k))) 
def Ic_markIntSLa (L : List Int) (n : Int) : Nat → St → Prop := Head (Lc_markIntSLa L n) (fun k => k ≤ List.length L ∧ List.length L ≤ 9223372036854775807) fun k => List.length L -
 k 
def W0c_markIntSLa (L : List Int) (n : Int) (x0 : SV) (x1 : Ob) : St := St.mk (regsOf 19 [(1, AV.sv x0)]) [x1] 1 
def Yc_markIntSLa (L : List Int) (n : Int) : List (Prop × AEx × St) := [(True, AEx.exit 0, W0c_markIntSLa L n (li (n + (↑(List.length L) : Int))) (Ob.arr true 1 (List.map intC
 (seqM mkI cOne L n))))]
theorem Hc_markIntSLa {L : List Int} {n : Int} {k : Nat} {m : Nat} (h : (fun k => k ≤ List.length L ∧ List.length L ≤ 9223372036854775807) k) (hm : (fun k => List.length L - k) k =
 m) : Ic_markIntSLa L n m (Lc_markIntSLa L n k) := hm ▸ Head.mk h
theorem Ec_markIntSLa {L : List Int} {n : Int} {k : Nat} {x0 : SV} {x1 : SV} {x2 : Ob} (h0 : x0 = (li (↑k : Int))) (h1 : x1 = (li (n + (↑k : Int)))) (h2 : x2 = (Ob.arr true 1
 (List.map intC (mkTo mkI cOne L n k)))) : Tc_markIntSLa L n x0 x1 x2 = Lc_markIntSLa L n k := by
  rw [h0, h1, h2]
  rfl
theorem EW0c_markIntSLa {L : List Int} {n : Int} {x0 y0 : SV} {x1 y1 : Ob} (h0 : x0 = y0) (h1 : x1 = y1) : W0c_markIntSLa L n x0 x1 = W0c_markIntSLa L n y0 y1 := by rw [h0, h1]
theorem run_c_markIntSLa (L : List Int) (n : Int) (k : Nat) : aexec Try.prog (loopAt Try.f31 0) (Lc_markIntSLa L n k) [Orc.br [Orc.cells (intC (List.getD L (Int.toNat (↑k : Int))
 default)), Orc.ghost (Ghost.sel [0] [0, 1, 5]), Orc.goto (List.length L - (k + 1)) (Lc_markIntSLa L n (k + 1))] [Orc.ghost (Ghost.sel [0] [1]), Orc.out 0]] (loopK (Ic_markIntSLa L
 n) (Yc_markIntSLa L n) (List.length L - k)) = (List.length (List.map intC (mkTo mkI cOne L n k)) ≤ 9223372036854775807 → (decide ((↑k : Int) < (↑(List.length (List.map intC (mkTo
 mkI cOne L n k))) : Int)) = true → (0 ≤ (↑k : Int) ∧ Int.toNat (↑k : Int) < List.length (List.map intC (mkTo mkI cOne L n k))) ∧ (List.map intC (mkTo mkI cOne L n k))[Int.toNat
 (↑k : Int)]? = some [cI (List.getD L (Int.toNat (↑k : Int)) 0)] ∧ rng IntKind.i64 (n + (↑k : Int) + 1) ∧ rng IntKind.i64 ((↑k : Int) + 1) ∧ List.length L - (k + 1) < List.length L
 - k ∧ Tc_markIntSLa L n (li ((↑k : Int) + 1)) (li (n + (↑k : Int) + 1)) (Ob.arr true 1 (List.set (List.map intC (mkTo mkI cOne L n k)) (Int.toNat (↑k : Int)) [cI (n + (↑k :
 Int))])) = Lc_markIntSLa L n (k + 1) ∧ Ic_markIntSLa L n (List.length L - (k + 1)) (Lc_markIntSLa L n (k + 1))) ∧ (decide ((↑k : Int) < (↑(List.length (List.map intC (mkTo mkI
 cOne L n k))) : Int)) = false → True ∧ W0c_markIntSLa L n (li (n + (↑k : Int))) (Ob.arr true 1 (List.map intC (mkTo mkI cOne L n k))) = W0c_markIntSLa L n (li (n + (↑(List.length
 L) : Int))) (Ob.arr true 1 (List.map intC (seqM mkI cOne L n))))) := by kernel_rfl
theorem Sc_markIntSLa (L : List Int) (n : Int) (h0 : 0 ≤ n) (h : n + (↑(List.length L) : Int) ≤ 2147483647)  : LoopSem Try.prog (loopAt Try.f31 0) (Ic_markIntSLa L n)
 (Yc_markIntSLa L n) := by
  refine LoopSem.ofHead wide fun k h => ⟨_, _, run_c_markIntSLa L n k, ?_⟩
  with_reducible repeat' (first | apply And.intro | exact flatI | exact flatS | exact rowLens | (intro; skip) | apply obsN | apply obsC | apply obA | apply obM | apply obB | apply svA | apply tupA | apply lcA | apply lcS | apply svC | apply liC | apply lbC | apply lsC | apply vIc | apply vBc | apply vSc | apply vLc | apply mapC | apply Hc_markIntSLa | apply Ec_markIntSLa | apply EW0c_markIntSLa)
  all_goals (try simp only [std, stdM] at *)
  all_goals (try (first | with_reducible rfl | omega | assumption | (refine (decide_eq_true ?_).symm; assumption) | (refine (decide_eq_false ?_).symm; assumption) | (refine rowGet ?_; (first | omega | (simp only [std, stdM]; omega) | grind)) | (refine getC ?_ rfl; (first | omega | (simp only [std, stdM]; omega) | grind)) | (refine fill_step ?_ ?_; (first | omega | (simp only [std, stdM]; omega) | grind); (first | rfl | exact (Row.eq _).trans rfl)) | (refine fill_init ?_; (first | rfl | exact (Row.eq _).trans rfl)) | (refine set_row ?_; (simp only [List.length_map, List.length_set, mkTo_len]; omega)) | (refine mkToRow ?_; (first | omega | (simp only [std, stdM]; omega) | grind)) | (refine mkTo_row ?_ rfl; (first | omega | (simp only [std, stdM]; omega) | grind)) | (refine mkTo_step ?_ ?_; (first | omega | (simp only [std, stdM]; omega) | grind); (first | grind [mkTo_all, mkI, cOne_take, intC, mkTo_get, snocI, snocS, rowSnoc])) | grind [mkTo_all, mkI, cOne_take, intC, mkTo_get, snocI, snocS, rowSnoc]))
theorem run_c_markIntS (L : List Int) (n : Int) : aexec Try.prog (Option.getD (Func.body Try.f31) Code.skip) (entry [Ob.arr true 1 (List.map intC L)] [SV.one (AC.ref 0), li n] 19)
 [Orc.ghost (Ghost.sel [0] [0, 1, 5]), Orc.loop (List.length L - 0) (Lc_markIntSLa L n 0) (Ic_markIntSLa L n) [(True, AEx.exit 0, W0c_markIntSLa L n (li (n + (↑(List.length L) :
 Int))) (Ob.arr true 1 (List.map intC (seqM mkI cOne L n))), [Orc.fin []])]] (finK Try.prog [ResultVar.tmp 4] [Ob.arr true 1 (List.map intC (seqM mkI cOne L n))] (AV.sv (li (n +
 (↑(List.length L) : Int))))) = (Tc_markIntSLa L n (li 0) (li n) (Ob.arr true 1 (List.map intC L)) = Lc_markIntSLa L n 0 ∧ Ic_markIntSLa L n (List.length L - 0) (Lc_markIntSLa L n
 0) ∧ LoopSem Try.prog (loopAt Try.f31 0) (Ic_markIntSLa L n) (Yc_markIntSLa L n) ∧ (True → ObsEq [Ob.arr true 1 (List.map intC (seqM mkI cOne L n))] [Ob.arr true 1 (List.map intC
 (seqM mkI cOne L n))] ∧ AV.sv (li (n + (↑(List.length L) : Int))) = AV.sv (li (n + (↑(List.length L) : Int)))) ∧ True) := by kernel_rfl
theorem c_markIntS (L : List Int) (n : Int) (h0 : 0 ≤ n) (h : n + L.length ≤ 2147483647)  : P_c_markIntS L n := by
  refine CallOK.ofRun wide (run_c_markIntS L n) Try.call31 Try.func31 rfl rfl rfl ?_
  with_reducible repeat' (first | apply And.intro | exact flatI | exact flatS | exact rowLens | (intro; skip) | apply obsN | apply obsC | apply obA | apply obM | apply obB | apply svA | apply tupA | apply lcA | apply lcS | apply svC | apply liC | apply lbC | apply lsC | apply vIc | apply vBc | apply vSc | apply vLc | apply mapC | apply Hc_markIntSLa | apply Ec_markIntSLa | apply Sc_markIntSLa | apply EW0c_markIntSLa)
  all_goals (try simp only [std, stdM] at *)
  all_goals (try (first | with_reducible rfl | omega | assumption | (refine (decide_eq_true ?_).symm; assumption) | (refine (decide_eq_false ?_).symm; assumption) | (refine rowGet ?_; (first | omega | (simp only [std, stdM]; omega) | grind)) | (refine getC ?_ rfl; (first | omega | (simp only [std, stdM]; omega) | grind)) | (refine fill_step ?_ ?_; (first | omega | (simp only [std, stdM]; omega) | grind); (first | rfl | exact (Row.eq _).trans rfl)) | (refine fill_init ?_; (first | rfl | exact (Row.eq _).trans rfl)) | (refine set_row ?_; (simp only [List.length_map, List.length_set, mkTo_len]; omega)) | (refine mkToRow ?_; (first | omega | (simp only [std, stdM]; omega) | grind)) | (refine mkTo_row ?_ rfl; (first | omega | (simp only [std, stdM]; omega) | grind)) | (refine mkTo_step ?_ ?_; (first | omega | (simp only [std, stdM]; omega) | grind); (first | grind [mkTo_zero, snocI, snocS, rowSnoc])) | grind [mkTo_zero, snocI, snocS, rowSnoc]))
abbrev P_c_markText (n : Int) : Prop := CallOK Try.prog 114 [] [li n] [] (.sv (ls (mText n)))
def Tc_markTextLa (n : Int) (x0 : SV) (x1 : SV) : St := St.mk (regsOf 20 [(0, AV.sv x0), (3, AV.sv x1)]) [] 0 
def Lc_markTextLa (n : Int) (k : Int × List UInt8) : St := Tc_markTextLa n (li (Prod.fst k)) (ls (mkS (Prod.snd k))) 
def Ic_markTextLa (n : Int) : Nat → St → Prop := Head (Lc_markTextLa n) (fun k => 0 ≤ Prod.fst k ∧ Prod.fst k ≤ n ∧ digs (Int.toNat (Prod.fst k)) ++ Prod.snd k = digs (Int.toNat
 n)) fun k => Int.toNat (Prod.fst k) 
def W0c_markTextLa (n : Int) (x0 : SV) : St := St.mk (regsOf 20 [(3, AV.sv x0)]) [] 0 
def Yc_markTextLa (n : Int) : List (Prop × AEx × St) := [(True, AEx.exit 0, W0c_markTextLa n (ls (mkS (digs (Int.toNat n)))))]
theorem Hc_markTextLa {n : Int} {k : Int × List UInt8} {m : Nat} (h : (fun k => 0 ≤ Prod.fst k ∧ Prod.fst k ≤ n ∧ digs (Int.toNat (Prod.fst k)) ++ Prod.snd k = digs (Int.toNat n))
 k) (hm : (fun k => Int.toNat (Prod.fst k)) k = m) : Ic_markTextLa n m (Lc_markTextLa n k) := hm ▸ Head.mk h
theorem Ec_markTextLa {n : Int} {k : Int × List UInt8} {x0 : SV} {x1 : SV} (h0 : x0 = (li (Prod.fst k))) (h1 : x1 = (ls (mkS (Prod.snd k)))) : Tc_markTextLa n x0 x1 = Lc_markTextLa
 n k := by
  rw [h0, h1]
  rfl
theorem EW0c_markTextLa {n : Int} {x0 y0 : SV} (h0 : x0 = y0) : W0c_markTextLa n x0 = W0c_markTextLa n y0 := by rw [h0]
theorem run_c_markTextLa (n : Int) (k : Int × List UInt8) : aexec Try.prog (loopAt Try.f114 0) (Lc_markTextLa n k) [Orc.br [Orc.bytes [UInt8.ofNat (Int.toNat (48 + Int.tmod
 (Prod.fst k) 10))], Orc.ghost (Ghost.sel [] [0, 3]), Orc.goto (Int.toNat (Int.tdiv (Prod.fst k) 10)) (Lc_markTextLa n (Int.tdiv (Prod.fst k) 10, [UInt8.ofNat (Int.toNat (48 +
 Int.tmod (Prod.fst k) 10))] ++ Prod.snd k))] [Orc.ghost (Ghost.sel [] [3]), Orc.out 0]] (loopK (Ic_markTextLa n) (Yc_markTextLa n) (Int.toNat (Prod.fst k))) = ((decide (0 <
 Prod.fst k) = true → (10 : Int) ≠ 0 ∧ rng IntKind.i64 (48 + Int.tmod (Prod.fst k) 10) ∧ rng IntKind.u8 (48 + Int.tmod (Prod.fst k) 10) ∧ [[Cell.lit (Value.int IntKind.u8 (48 +
 Int.tmod (Prod.fst k) 10))]] = [[Cell.lit (Value.int IntKind.u8 (↑(UInt8.toNat (UInt8.ofNat (Int.toNat (48 + Int.tmod (Prod.fst k) 10)))) : Int))]] ∧ 1 + List.length (Prod.snd k)
 ≤ 9223372036854775807 ∧ (10 : Int) ≠ 0 ∧ rng IntKind.i64 (Int.tdiv (Prod.fst k) 10) ∧ Int.toNat (Int.tdiv (Prod.fst k) 10) < Int.toNat (Prod.fst k) ∧ Tc_markTextLa n (li (Int.tdiv
 (Prod.fst k) 10)) (ls (ByteArray.mk (List.toArray ([UInt8.ofNat (Int.toNat (48 + Int.tmod (Prod.fst k) 10))] ++ Prod.snd k)))) = Lc_markTextLa n (Int.tdiv (Prod.fst k) 10,
 [UInt8.ofNat (Int.toNat (48 + Int.tmod (Prod.fst k) 10))] ++ Prod.snd k) ∧ Ic_markTextLa n (Int.toNat (Int.tdiv (Prod.fst k) 10)) (Lc_markTextLa n (Int.tdiv (Prod.fst k) 10,
 [UInt8.ofNat (Int.toNat (48 + Int.tmod (Prod.fst k) 10))] ++ Prod.snd k))) ∧ (decide (0 < Prod.fst k) = false → True ∧ W0c_markTextLa n (ls (mkS (Prod.snd k))) = W0c_markTextLa n
 (ls (mkS (digs (Int.toNat n)))))) := by kernel_rfl
theorem Sc_markTextLa (n : Int) (h0 : 0 ≤ n) (h : n ≤ 2147483647)  : LoopSem Try.prog (loopAt Try.f114 0) (Ic_markTextLa n) (Yc_markTextLa n) := by
  refine LoopSem.ofHead wide fun k h => ⟨_, _, run_c_markTextLa n k, ?_⟩
  obtain ⟨i, l⟩ := k
  simp only at *
  obtain ⟨g1, g2, g3⟩ := h
  have g4 : l.length ≤ 2147483647 := by
    have := congrArg List.length g3
    have := digs_len n.toNat
    simp only [List.length_append] at *
    omega
  simp only [Int.tmod_eq_emod_of_nonneg g1, Int.tdiv_eq_ediv_of_nonneg g1]
  refine ⟨fun g => ?_, fun g => ?_⟩
  · have g : 0 < i := of_decide_eq_true g
    refine ⟨by decide, by rw [rng64]; omega, by rw [rngu8]; omega, by rw [u8_int (by omega) (by omega)], by omega, by decide, by rw [rng64]; omega, by omega, ?_, ?_⟩
    · apply Ec_markTextLa <;> rfl
    · apply Hc_markTextLa
      · exact ⟨by show 0 ≤ i / 10; omega, by show i / 10 ≤ n; omega, by show digs (i / 10).toNat ++ ([_] ++ l) = _; rw [← g3, digs_int g, List.append_assoc]⟩
      · rfl
  · have g : ¬ 0 < i := of_decide_eq_false g
    refine ⟨trivial, ?_⟩
    have e : i = 0 := by omega
    subst e
    rw [show digs (0 : Int).toNat = [] from digs_zero] at g3
    rw [← g3]; rfl
theorem run_c_markText (n : Int) : aexec Try.prog (Option.getD (Func.body Try.f114) Code.skip) (entry [] [li n] 20) [Orc.br [Orc.fin []] [Orc.ghost (Ghost.sel [] [0, 3]), Orc.loop
 (Int.toNat n) (Lc_markTextLa n (n, [])) (Ic_markTextLa n) [(True, AEx.exit 0, W0c_markTextLa n (ls (mkS (digs (Int.toNat n)))), [Orc.fin []])]]] (finK Try.prog [ResultVar.tmp 2]
 [] (AV.sv (ls (mText n)))) = ((decide (n ≤ 0) = true → ObsEq [] [] ∧ AV.sv (ls (ByteArray.mk #[(109 : UInt8), (48 : UInt8)])) = AV.sv (ls (mText n))) ∧ (decide (n ≤ 0) = false →
 Tc_markTextLa n (li n) (ls (ByteArray.mk #[])) = Lc_markTextLa n (n, []) ∧ Ic_markTextLa n (Int.toNat n) (Lc_markTextLa n (n, [])) ∧ LoopSem Try.prog (loopAt Try.f114 0)
 (Ic_markTextLa n) (Yc_markTextLa n) ∧ (True → 1 + List.length (digs (Int.toNat n)) ≤ 9223372036854775807 ∧ ObsEq [] [] ∧ AV.sv (ls (ByteArray.mk (List.toArray ([(109 : UInt8)] ++
 digs (Int.toNat n))))) = AV.sv (ls (mText n))) ∧ True)) := by kernel_rfl
theorem c_markText (n : Int) (h0 : 0 ≤ n) (h : n ≤ 2147483647)  : P_c_markText n := by
  refine CallOK.ofRun wide (run_c_markText n) Try.call114 Try.func114 rfl rfl rfl ?_
  have g := digs_len n.toNat
  simp only [mText]
  with_reducible repeat' (first | apply And.intro | exact flatI | exact flatS | exact rowLens | (intro; skip) | apply obsN | apply obsC | apply obA | apply obM | apply obB | apply svA | apply tupA | apply lcA | apply lcS | apply svC | apply liC | apply lbC | apply lsC | apply vIc | apply vBc | apply vSc | apply vLc | apply mapC | apply Hc_markTextLa | apply Ec_markTextLa | apply Sc_markTextLa | apply EW0c_markTextLa)
  all_goals (try simp only [std, stdM] at *)
  all_goals (try (first | with_reducible rfl | omega | assumption | (refine (decide_eq_true ?_).symm; assumption) | (refine (decide_eq_false ?_).symm; assumption) | (refine rowGet ?_; (first | omega | (simp only [std, stdM]; omega) | grind)) | (refine getC ?_ rfl; (first | omega | (simp only [std, stdM]; omega) | grind)) | (refine fill_step ?_ ?_; (first | omega | (simp only [std, stdM]; omega) | grind); (first | rfl | exact (Row.eq _).trans rfl)) | (refine fill_init ?_; (first | rfl | exact (Row.eq _).trans rfl)) | (refine set_row ?_; (simp only [List.length_map, List.length_set, mkTo_len]; omega)) | (refine mkToRow ?_; (first | omega | (simp only [std, stdM]; omega) | grind)) | (refine mkTo_row ?_ rfl; (first | omega | (simp only [std, stdM]; omega) | grind)) | (refine mkTo_step ?_ ?_; (first | omega | (simp only [std, stdM]; omega) | grind); (first | grind [mkS, snocI, snocS, rowSnoc])) | grind [mkS, snocI, snocS, rowSnoc]))
abbrev P_c_markDatumS (x : Datum) (n : Int) : Prop := CallOK Try.prog 115 [.arr true 4 (x.items.map datumC)] [.one (.ref 0), li n] [.arr true 4 ((seqM mkD cD x.items n).map datumC)] (.sv (li (n + sumBy cD x.items)))
def Tc_markDatumS_sLa (x : Datum) (n : Int) (x0 : SV) (x1 : SV) (x2 : Ob) : St := St.mk (regsOf 42 [(0, AV.sv (SV.one (AC.ref 0))), (1, AV.sv x1), (5, AV.sv x0)]) [x2] 1 
def Lc_markDatumS_sLa (x : Datum) (n : Int) (k : Nat) : St := Tc_markDatumS_sLa x n (li (↑k : Int)) (li (n + (↑(sumBy cD (List.take k (Datum.items x))) : Int))) (Ob.arr true 4
 (List.map datumC (mkTo mkD cD (Datum.items x) n k))) 
def Ic_markDatumS_sLa (x : Datum) (n : Int) : Nat → St → Prop := Head (Lc_markDatumS_sLa x n) (fun k => k ≤ List.length (Datum.items x) ∧ List.length (Datum.items x) ≤
 9223372036854775807) fun k => List.length (Datum.items x) - k 
def W0c_markDatumS_sLa (x : Datum) (n : Int) (x0 : SV) (x1 : Ob) : St := St.mk (regsOf 42 [(1, AV.sv x0)]) [x1] 1 
def Yc_markDatumS_sLa (x : Datum) (n : Int) : List (Prop × AEx × St) := [(True, AEx.exit 0, W0c_markDatumS_sLa x n (li (n + (↑(sumBy cD (Datum.items x)) : Int))) (Ob.arr true 4
 (List.map datumC (seqM mkD cD (Datum.items x) n))))]
theorem Hc_markDatumS_sLa {x : Datum} {n : Int} {k : Nat} {m : Nat} (h : (fun k => k ≤ List.length (Datum.items x) ∧ List.length (Datum.items x) ≤ 9223372036854775807) k) (hm :
 (fun k => List.length (Datum.items x) - k) k = m) : Ic_markDatumS_sLa x n m (Lc_markDatumS_sLa x n k) := hm ▸ Head.mk h
theorem Ec_markDatumS_sLa {x : Datum} {n : Int} {k : Nat} {x0 : SV} {x1 : SV} {x2 : Ob} (h0 : x0 = (li (↑k : Int))) (h1 : x1 = (li (n + (↑(sumBy cD (List.take k (Datum.items x))) :
 Int)))) (h2 : x2 = (Ob.arr true 4 (List.map datumC (mkTo mkD cD (Datum.items x) n k)))) : Tc_markDatumS_sLa x n x0 x1 x2 = Lc_markDatumS_sLa x n k := by
  rw [h0, h1, h2]
  rfl
theorem EW0c_markDatumS_sLa {x : Datum} {n : Int} {x0 y0 : SV} {x1 y1 : Ob} (h0 : x0 = y0) (h1 : x1 = y1) : W0c_markDatumS_sLa x n x0 x1 = W0c_markDatumS_sLa x n y0 y1 := by rw
 [h0, h1]
abbrev a4__markDatumS_sLa (x : Datum) (k : Nat) := (↑(sumBy cD (List.take k (Datum.items x))) : Int)
abbrev a3__markDatumS_sLa (x : Datum) (k : Nat) := (List.getD (Datum.items x) (Int.toNat (↑k : Int)) default)
abbrev a8__markDatumS_sLa (x : Datum) (k : Nat) := (List.map datumC (Datum.items (a3__markDatumS_sLa x k)))
abbrev a1__markDatumS_sLa (x : Datum) (n : Int) (k : Nat) := [cI (n + (a4__markDatumS_sLa x k)), cI (n + (a4__markDatumS_sLa x k) + 1), cS (mText (n + (a4__markDatumS_sLa x k) + 1
 + 1)), Cell.list (a8__markDatumS_sLa x k)]
abbrev a2__markDatumS_sLa (x : Datum) (n : Int) (k : Nat) := [cI (n + (a4__markDatumS_sLa x k)), cI (n + (a4__markDatumS_sLa x k) + 1), cS (Datum.text (a3__markDatumS_sLa x k)),
 Cell.list (a8__markDatumS_sLa x k)]
abbrev a5__markDatumS_sLa (x : Datum) (n : Int) (k : Nat) := (List.map datumC (mkTo mkD cD (Datum.items x) n k))
abbrev a6__markDatumS_sLa (x : Datum) (n : Int) (k : Nat) := [cI (n + (a4__markDatumS_sLa x k)), cI (Datum.number (a3__markDatumS_sLa x k)), cS (Datum.text (a3__markDatumS_sLa x
 k)), Cell.list (a8__markDatumS_sLa x k)]
abbrev a7__markDatumS_sLa (x : Datum) (n : Int) (k : Nat) := (List.set (a5__markDatumS_sLa x n k) (Int.toNat (↑k : Int)) (a1__markDatumS_sLa x n k))
abbrev a9__markDatumS_sLa (x : Datum) (n : Int) (k : Nat) := (List.map datumC (seqM mkD cD (Datum.items (a3__markDatumS_sLa x k)) (n + (a4__markDatumS_sLa x k) + 1 + 1 + 1)))
abbrev a10__markDatumS_sLa (x : Datum) (n : Int) (k : Nat) := (li (n + (a4__markDatumS_sLa x k) + 1 + 1 + 1 + (↑(sumBy cD (Datum.items (a3__markDatumS_sLa x k))) : Int)))
theorem run_c_markDatumS_sLa (x : Datum) (n : Int) (k : Nat) : aexec Try.prog (loopAt Try.f115 0) (Lc_markDatumS_sLa x n k) [Orc.br [Orc.cells (datumF (a3__markDatumS_sLa x k)),
 Orc.take (a6__markDatumS_sLa x n k) (List.set (a5__markDatumS_sLa x n k) (Int.toNat (↑k : Int)) (a2__markDatumS_sLa x n k)) 0, Orc.call [Mode.rd] [] (AV.sv (ls (mText (n +
 (a4__markDatumS_sLa x k) + 1 + 1)))), Orc.take (a2__markDatumS_sLa x n k) (a7__markDatumS_sLa x n k) 0, Orc.sub, Orc.subcall (a1__markDatumS_sLa x n k) (a8__markDatumS_sLa x k) 4,
 Orc.call [Mode.own true 4, Mode.rd] [Ob.arr true 4 (a9__markDatumS_sLa x n k)] (AV.sv (a10__markDatumS_sLa x n k)), Orc.ghost (Ghost.sel [0] [0, 1, 5]), Orc.goto (List.length
 (Datum.items x) - (k + 1)) (Lc_markDatumS_sLa x n (k + 1))] [Orc.ghost (Ghost.sel [0] [1]), Orc.out 0]] (loopK (Ic_markDatumS_sLa x n) (Yc_markDatumS_sLa x n) (List.length
 (Datum.items x) - k)) = (List.length (a5__markDatumS_sLa x n k) ≤ 9223372036854775807 → (decide ((↑k : Int) < (↑(List.length (a5__markDatumS_sLa x n k)) : Int)) = true → (0 ≤ (↑k
 : Int) ∧ Int.toNat (↑k : Int) < List.length (a5__markDatumS_sLa x n k)) ∧ (a5__markDatumS_sLa x n k)[Int.toNat (↑k : Int)]? = some (datumF (a3__markDatumS_sLa x k)) ∧ rng
 IntKind.i64 (n + (a4__markDatumS_sLa x k) + 1) ∧ (0 ≤ (↑k : Int) ∧ Int.toNat (↑k : Int) < List.length (List.set (a5__markDatumS_sLa x n k) (Int.toNat (↑k : Int))
 (a6__markDatumS_sLa x n k))) ∧ (List.set (a5__markDatumS_sLa x n k) (Int.toNat (↑k : Int)) (a6__markDatumS_sLa x n k))[Int.toNat (↑k : Int)]? = some (a6__markDatumS_sLa x n k) ∧
 List.set (List.set (a5__markDatumS_sLa x n k) (Int.toNat (↑k : Int)) (a6__markDatumS_sLa x n k)) (Int.toNat (↑k : Int)) (a2__markDatumS_sLa x n k) = List.set (a5__markDatumS_sLa x
 n k) (Int.toNat (↑k : Int)) (a2__markDatumS_sLa x n k) ∧ rng IntKind.i64 (n + (a4__markDatumS_sLa x k) + 1 + 1) ∧ P_c_markText (n + (a4__markDatumS_sLa x k) + 1 + 1) ∧ (0 ≤ (↑k :
 Int) ∧ Int.toNat (↑k : Int) < List.length (List.set (a5__markDatumS_sLa x n k) (Int.toNat (↑k : Int)) (a2__markDatumS_sLa x n k))) ∧ (List.set (a5__markDatumS_sLa x n k)
 (Int.toNat (↑k : Int)) (a2__markDatumS_sLa x n k))[Int.toNat (↑k : Int)]? = some (a2__markDatumS_sLa x n k) ∧ List.set (List.set (a5__markDatumS_sLa x n k) (Int.toNat (↑k : Int))
 (a2__markDatumS_sLa x n k)) (Int.toNat (↑k : Int)) (a1__markDatumS_sLa x n k) = List.set (a5__markDatumS_sLa x n k) (Int.toNat (↑k : Int)) (a1__markDatumS_sLa x n k) ∧ rng
 IntKind.i64 (n + (a4__markDatumS_sLa x k) + 1 + 1 + 1) ∧ (0 ≤ (↑k : Int) ∧ Int.toNat (↑k : Int) < List.length (a7__markDatumS_sLa x n k)) ∧ Int.toNat (↑k : Int) < List.length
 (a7__markDatumS_sLa x n k) ∧ (a7__markDatumS_sLa x n k)[Int.toNat (↑k : Int)]? = some (a1__markDatumS_sLa x n k) ∧ some (Cell.list (a8__markDatumS_sLa x k)) = some (Cell.list
 (a8__markDatumS_sLa x k)) ∧ (∀ (x_1 : List Cell), x_1 ∈ List.map datumC (Datum.items (a3__markDatumS_sLa x k)) → List.length x_1 = 4) ∧ CallOK Try.prog 115 [Ob.arr true 4
 (a8__markDatumS_sLa x k)] [SV.one (AC.ref 0), li (n + (a4__markDatumS_sLa x k) + 1 + 1 + 1)] [Ob.arr true 4 (a9__markDatumS_sLa x n k)] (AV.sv (a10__markDatumS_sLa x n k)) ∧ rng
 IntKind.i64 ((↑k : Int) + 1) ∧ List.length (Datum.items x) - (k + 1) < List.length (Datum.items x) - k ∧ Tc_markDatumS_sLa x n (li ((↑k : Int) + 1)) (a10__markDatumS_sLa x n k)
 (Ob.arr true 4 (List.set (a7__markDatumS_sLa x n k) (Int.toNat (↑k : Int)) [cI (n + (a4__markDatumS_sLa x k)), cI (n + (a4__markDatumS_sLa x k) + 1), cS (mText (n +
 (a4__markDatumS_sLa x k) + 1 + 1)), Cell.list (a9__markDatumS_sLa x n k)])) = Lc_markDatumS_sLa x n (k + 1) ∧ Ic_markDatumS_sLa x n (List.length (Datum.items x) - (k + 1))
 (Lc_markDatumS_sLa x n (k + 1))) ∧ (decide ((↑k : Int) < (↑(List.length (a5__markDatumS_sLa x n k)) : Int)) = false → True ∧ W0c_markDatumS_sLa x n (li (n + (a4__markDatumS_sLa x
 k))) (Ob.arr true 4 (a5__markDatumS_sLa x n k)) = W0c_markDatumS_sLa x n (li (n + (↑(sumBy cD (Datum.items x)) : Int))) (Ob.arr true 4 (List.map datumC (seqM mkD cD (Datum.items
 x) n))))) := by kernel_rfl
theorem Sc_markDatumS_sLa (x : Datum) (n : Int) (h0 : 0 ≤ n) (h : n + (↑(sumBy cD (Datum.items x)) : Int) ≤ 2147483647) (ih : ∀ (z : Datum), z ∈ Datum.items x → ∀ (n : Int), 0 ≤ n
 → n + (↑(sumBy cD (Datum.items z)) : Int) ≤ 2147483647 → P_c_markDatumS z n)  : LoopSem Try.prog (loopAt Try.f115 0) (Ic_markDatumS_sLa x n) (Yc_markDatumS_sLa x n) := by
  refine LoopSem.ofHead wide fun k h => ⟨_, _, run_c_markDatumS_sLa x n k, ?_⟩
  try delta a4__markDatumS_sLa a3__markDatumS_sLa a8__markDatumS_sLa a1__markDatumS_sLa a2__markDatumS_sLa a5__markDatumS_sLa a6__markDatumS_sLa a7__markDatumS_sLa a9__markDatumS_sLa a10__markDatumS_sLa
  have g0 := sumBy_takeLe cD x.items (k + 1)
  with_reducible repeat' (first | apply And.intro | exact flatI | exact flatS | exact rowLens | exact ih | (intro; skip) | apply obsN | apply obsC | apply obA | apply obM | apply obB | apply svA | apply tupA | apply lcA | apply lcS | apply svC | apply liC | apply lbC | apply lsC | apply vIc | apply vBc | apply vSc | apply vLc | apply mapC | apply Hc_markDatumS_sLa | apply Ec_markDatumS_sLa | apply EW0c_markDatumS_sLa | apply c_markText | apply ih)
  all_goals (try simp only [std, stdM] at *)
  all_goals (try (first | with_reducible rfl | omega | assumption | (refine (decide_eq_true ?_).symm; assumption) | (refine (decide_eq_false ?_).symm; assumption) | (refine rowGet ?_; (first | omega | (simp only [std, stdM]; omega) | grind)) | (refine getC ?_ rfl; (first | omega | (simp only [std, stdM]; omega) | grind)) | (refine fill_step ?_ ?_; (first | omega | (simp only [std, stdM]; omega) | grind); (first | rfl | exact (Row.eq _).trans rfl)) | (refine fill_init ?_; (first | rfl | exact (Row.eq _).trans rfl)) | (refine set_row ?_; (simp only [List.length_map, List.length_set, mkTo_len]; omega)) | (refine mkToRow ?_; (first | omega | (simp only [std, stdM]; omega) | grind)) | (refine mkTo_row ?_ rfl; (first | omega | (simp only [std, stdM]; omega) | grind)) | (refine mkTo_step ?_ ?_; (first | omega | (simp only [std, stdM]; omega) | grind); (first | exact mkD_C _ _ | grind [sumBy_step, getD_mem', cD_eq, mkD_C, mkTo_all, snocI, snocS, rowSnoc])) | grind [sumBy_step, getD_mem', cD_eq, mkD_C, mkTo_all, snocI, snocS, rowSnoc]))
theorem run_c_markDatumS_s (x : Datum) (n : Int) : aexec Try.prog (Option.getD (Func.body Try.f115) Code.skip) (entry [Ob.arr true 4 (List.map datumC (Datum.items x))] [SV.one
 (AC.ref 0), li n] 42) [Orc.ghost (Ghost.sel [0] [0, 1, 5]), Orc.loop (List.length (Datum.items x) - 0) (Lc_markDatumS_sLa x n 0) (Ic_markDatumS_sLa x n) [(True, AEx.exit 0,
 W0c_markDatumS_sLa x n (li (n + (↑(sumBy cD (Datum.items x)) : Int))) (Ob.arr true 4 (List.map datumC (seqM mkD cD (Datum.items x) n))), [Orc.fin []])]] (finK Try.prog
 [ResultVar.tmp 4] [Ob.arr true 4 (List.map datumC (seqM mkD cD (Datum.items x) n))] (AV.sv (li (n + (↑(sumBy cD (Datum.items x)) : Int))))) = (Tc_markDatumS_sLa x n (li 0) (li n)
 (Ob.arr true 4 (List.map datumC (Datum.items x))) = Lc_markDatumS_sLa x n 0 ∧ Ic_markDatumS_sLa x n (List.length (Datum.items x) - 0) (Lc_markDatumS_sLa x n 0) ∧ LoopSem Try.prog
 (loopAt Try.f115 0) (Ic_markDatumS_sLa x n) (Yc_markDatumS_sLa x n) ∧ (True → ObsEq [Ob.arr true 4 (List.map datumC (seqM mkD cD (Datum.items x) n))] [Ob.arr true 4 (List.map
 datumC (seqM mkD cD (Datum.items x) n))] ∧ AV.sv (li (n + (↑(sumBy cD (Datum.items x)) : Int))) = AV.sv (li (n + (↑(sumBy cD (Datum.items x)) : Int)))) ∧ True) := by kernel_rfl
theorem c_markDatumS_s (x : Datum) (n : Int) (h0 : 0 ≤ n) (h : n + sumBy cD x.items ≤ 2147483647) (ih : ∀ z ∈ x.items, ∀ (n : Int) (h0 : 0 ≤ n) (h : n + sumBy cD z.items ≤
 2147483647), P_c_markDatumS z n)  : P_c_markDatumS x n := by
  refine CallOK.ofRun wide (run_c_markDatumS_s x n) Try.call115 Try.func115 rfl rfl rfl ?_
  have gl := cD_len x.items
  with_reducible repeat' (first | apply And.intro | exact flatI | exact flatS | exact rowLens | exact ih | (intro; skip) | apply obsN | apply obsC | apply obA | apply obM | apply obB | apply svA | apply tupA | apply lcA | apply lcS | apply svC | apply liC | apply lbC | apply lsC | apply vIc | apply vBc | apply vSc | apply vLc | apply mapC | apply Hc_markDatumS_sLa | apply Ec_markDatumS_sLa | apply Sc_markDatumS_sLa | apply EW0c_markDatumS_sLa | apply c_markText)
  all_goals (try simp only [std, stdM] at *)
  all_goals (try (first | with_reducible rfl | omega | assumption | (refine (decide_eq_true ?_).symm; assumption) | (refine (decide_eq_false ?_).symm; assumption) | (refine rowGet ?_; (first | omega | (simp only [std, stdM]; omega) | grind)) | (refine getC ?_ rfl; (first | omega | (simp only [std, stdM]; omega) | grind)) | (refine fill_step ?_ ?_; (first | omega | (simp only [std, stdM]; omega) | grind); (first | rfl | exact (Row.eq _).trans rfl)) | (refine fill_init ?_; (first | rfl | exact (Row.eq _).trans rfl)) | (refine set_row ?_; (simp only [List.length_map, List.length_set, mkTo_len]; omega)) | (refine mkToRow ?_; (first | omega | (simp only [std, stdM]; omega) | grind)) | (refine mkTo_row ?_ rfl; (first | omega | (simp only [std, stdM]; omega) | grind)) | (refine mkTo_step ?_ ?_; (first | omega | (simp only [std, stdM]; omega) | grind); (first | grind [mkTo_all, snocI, snocS, rowSnoc])) | grind [mkTo_all, snocI, snocS, rowSnoc]))
theorem c_markDatumS (x : Datum) : ∀ (n : Int) (h0 : 0 ≤ n) (h : n + sumBy cD x.items ≤ 2147483647), P_c_markDatumS x n := Datum.ind (P := fun x => ∀ (n : Int) (h0 : 0 ≤ n) (h : n + sumBy cD x.items ≤ 2147483647), P_c_markDatumS x n) (fun x ih n h0 h => c_markDatumS_s x n h0 h ih) x
theorem c_markDatumSL (L : List Datum) (n : Int) (h0 : 0 ≤ n) (h : n + sumBy cD L ≤ 2147483647) : P_c_markDatumS { (default : Datum) with items := L } n := c_markDatumS { (default : Datum) with items := L } n h0 h
abbrev P_c_markDatum (x : Datum) (n : Int) : Prop := CallOK Try.prog 47 [.arr true 4 (x.items.map datumC)] [.agg [vI x.kind, vI x.number, vS x.text, .ref 0], li n] [.arr true 4 ((seqM mkD cD x.items (n)).map datumC)] (.sv (li (n + sumBy cD x.items)))
theorem run_c_markDatum (x : Datum) (n : Int) : aexec Try.prog (Option.getD (Func.body Try.f47) Code.skip) (entry [Ob.arr true 4 (List.map datumC (Datum.items x))] [SV.agg [vI
 (Datum.kind x), vI (Datum.number x), vS (Datum.text x), AC.ref 0], li n] 10) [Orc.call [Mode.own true 4, Mode.rd] [Ob.arr true 4 (List.map datumC (seqM mkD cD (Datum.items x) n))]
 (AV.sv (li (n + (↑(sumBy cD (Datum.items x)) : Int)))), Orc.fin []] (finK Try.prog [ResultVar.tmp 4] [Ob.arr true 4 (List.map datumC (seqM mkD cD (Datum.items x) n))] (AV.sv (li
 (n + (↑(sumBy cD (Datum.items x)) : Int))))) = (CallOK Try.prog 115 [Ob.arr true 4 (List.map datumC (Datum.items x))] [SV.one (AC.ref 0), li n] [Ob.arr true 4 (List.map datumC
 (seqM mkD cD (Datum.items x) n))] (AV.sv (li (n + (↑(sumBy cD (Datum.items x)) : Int)))) ∧ ObsEq [Ob.arr true 4 (List.map datumC (seqM mkD cD (Datum.items x) n))] [Ob.arr true 4
 (List.map datumC (seqM mkD cD (Datum.items x) n))] ∧ AV.sv (li (n + (↑(sumBy cD (Datum.items x)) : Int))) = AV.sv (li (n + (↑(sumBy cD (Datum.items x)) : Int)))) := by kernel_rfl
theorem c_markDatum (x : Datum) (n : Int) (h0 : 0 ≤ n) (h : n + (sumBy cD x.items : Nat) ≤ 2147483647)  : P_c_markDatum x n := by
  refine CallOK.ofRun wide (run_c_markDatum x n) Try.call47 Try.func47 rfl rfl rfl ?_
  with_reducible repeat' (first | apply And.intro | exact flatI | exact flatS | exact rowLens | (intro; skip) | apply obsN | apply obsC | apply obA | apply obM | apply obB | apply svA | apply tupA | apply lcA | apply lcS | apply svC | apply liC | apply lbC | apply lsC | apply vIc | apply vBc | apply vSc | apply vLc | apply mapC | apply c_markDatumS | apply c_markDatumSL)
  all_goals (try simp only [std, stdM] at *)
  all_goals (try (first | with_reducible rfl | omega | assumption | (refine (decide_eq_true ?_).symm; assumption) | (refine (decide_eq_false ?_).symm; assumption) | (refine rowGet ?_; (first | omega | (simp only [std, stdM]; omega) | grind)) | (refine getC ?_ rfl; (first | omega | (simp only [std, stdM]; omega) | grind)) | (refine fill_step ?_ ?_; (first | omega | (simp only [std, stdM]; omega) | grind); (first | rfl | exact (Row.eq _).trans rfl)) | (refine fill_init ?_; (first | rfl | exact (Row.eq _).trans rfl)) | (refine set_row ?_; (simp only [List.length_map, List.length_set, mkTo_len]; omega)) | (refine mkToRow ?_; (first | omega | (simp only [std, stdM]; omega) | grind)) | (refine mkTo_row ?_ rfl; (first | omega | (simp only [std, stdM]; omega) | grind)) | (refine mkTo_step ?_ ?_; (first | omega | (simp only [std, stdM]; omega) | grind); (first | grind [snocI, snocS, rowSnoc])) | grind [snocI, snocS, rowSnoc]))
abbrev P_c_markCoreS (x : Core) (n : Int) : Prop := CallOK Try.prog 116 [.arr true 8 (x.kids.map coreC)] [.one (.ref 0), li n] [.arr true 8 ((seqM mkC cC x.kids n).map coreC)] (.sv (li (n + sumBy cC x.kids)))
def Tc_markCoreS_sLa (x : Core) (n : Int) (x0 : SV) (x1 : SV) (x2 : Ob) : St := St.mk (regsOf 74 [(0, AV.sv (SV.one (AC.ref 0))), (1, AV.sv x1), (5, AV.sv x0)]) [x2] 1 
def Lc_markCoreS_sLa (x : Core) (n : Int) (k : Nat) : St := Tc_markCoreS_sLa x n (li (↑k : Int)) (li (n + (↑(sumBy cC (List.take k (Core.kids x))) : Int))) (Ob.arr true 8 (List.map
 coreC (mkTo mkC cC (Core.kids x) n k))) 
def Ic_markCoreS_sLa (x : Core) (n : Int) : Nat → St → Prop := Head (Lc_markCoreS_sLa x n) (fun k => k ≤ List.length (Core.kids x) ∧ List.length (Core.kids x) ≤
 9223372036854775807) fun k => List.length (Core.kids x) - k 
def W0c_markCoreS_sLa (x : Core) (n : Int) (x0 : SV) (x1 : Ob) : St := St.mk (regsOf 74 [(1, AV.sv x0)]) [x1] 1 
def Yc_markCoreS_sLa (x : Core) (n : Int) : List (Prop × AEx × St) := [(True, AEx.exit 0, W0c_markCoreS_sLa x n (li (n + (↑(sumBy cC (Core.kids x)) : Int))) (Ob.arr true 8
 (List.map coreC (seqM mkC cC (Core.kids x) n))))]
theorem Hc_markCoreS_sLa {x : Core} {n : Int} {k : Nat} {m : Nat} (h : (fun k => k ≤ List.length (Core.kids x) ∧ List.length (Core.kids x) ≤ 9223372036854775807) k) (hm : (fun k =>
 List.length (Core.kids x) - k) k = m) : Ic_markCoreS_sLa x n m (Lc_markCoreS_sLa x n k) := hm ▸ Head.mk h
theorem Ec_markCoreS_sLa {x : Core} {n : Int} {k : Nat} {x0 : SV} {x1 : SV} {x2 : Ob} (h0 : x0 = (li (↑k : Int))) (h1 : x1 = (li (n + (↑(sumBy cC (List.take k (Core.kids x))) :
 Int)))) (h2 : x2 = (Ob.arr true 8 (List.map coreC (mkTo mkC cC (Core.kids x) n k)))) : Tc_markCoreS_sLa x n x0 x1 x2 = Lc_markCoreS_sLa x n k := by
  rw [h0, h1, h2]
  rfl
theorem EW0c_markCoreS_sLa {x : Core} {n : Int} {x0 y0 : SV} {x1 y1 : Ob} (h0 : x0 = y0) (h1 : x1 = y1) : W0c_markCoreS_sLa x n x0 x1 = W0c_markCoreS_sLa x n y0 y1 := by rw [h0,
 h1]
abbrev a1__markCoreS_sLa (x : Core) (k : Nat) := (List.getD (Core.kids x) (Int.toNat (↑k : Int)) default)
abbrev a20__markCoreS_sLa (x : Core) (n : Int) (k : Nat) := (List.map coreC (mkTo mkC cC (Core.kids x) n k))
abbrev a4__markCoreS_sLa (x : Core) (k : Nat) := (↑(sumBy cC (List.take k (Core.kids x))) : Int)
abbrev a14__markCoreS_sLa (x : Core) (k : Nat) := (Datum.items (Core.datum (a1__markCoreS_sLa x k)))
abbrev a23__markCoreS_sLa (x : Core) (k : Nat) := (List.map datumC (a14__markCoreS_sLa x k))
abbrev a19__markCoreS_sLa (x : Core) (k : Nat) := (List.map coreC (Core.kids (a1__markCoreS_sLa x k)))
abbrev a9__markCoreS_sLa (x : Core) (n : Int) (k : Nat) := [cI (n + (a4__markCoreS_sLa x k)), cI (n + (a4__markCoreS_sLa x k) + 1), Cell.list (List.map intC (Core.params
 (a1__markCoreS_sLa x k))), cI (Datum.kind (Core.datum (a1__markCoreS_sLa x k))), cI (Datum.number (Core.datum (a1__markCoreS_sLa x k))), cS (Datum.text (Core.datum
 (a1__markCoreS_sLa x k))), Cell.list (a23__markCoreS_sLa x k), Cell.list (a19__markCoreS_sLa x k)]
abbrev a2__markCoreS_sLa (x : Core) (n : Int) (k : Nat) := (List.set (a20__markCoreS_sLa x n k) (Int.toNat (↑k : Int)) (a9__markCoreS_sLa x n k))
abbrev a13__markCoreS_sLa (x : Core) (n : Int) (k : Nat) := (List.map intC (seqM mkI cOne (Core.params (a1__markCoreS_sLa x k)) (n + (a4__markCoreS_sLa x k) + 1 + 1)))
abbrev a11__markCoreS_sLa (x : Core) (k : Nat) := (↑(List.length (Core.params (a1__markCoreS_sLa x k))) : Int)
abbrev a21__markCoreS_sLa (x : Core) (n : Int) (k : Nat) := (n + (a4__markCoreS_sLa x k) + 1 + 1 + (a11__markCoreS_sLa x k))
abbrev a22__markCoreS_sLa (x : Core) (n : Int) (k : Nat) := (n + (a4__markCoreS_sLa x k) + 1 + 1 + (a11__markCoreS_sLa x k) + 1)
abbrev a17__markCoreS_sLa (x : Core) (n : Int) (k : Nat) := (n + (a4__markCoreS_sLa x k) + 1 + 1 + (a11__markCoreS_sLa x k) + 1 + 1)
abbrev a3__markCoreS_sLa (x : Core) (n : Int) (k : Nat) := [cI (n + (a4__markCoreS_sLa x k)), cI (n + (a4__markCoreS_sLa x k) + 1), Cell.list (a13__markCoreS_sLa x n k), cI
 (a21__markCoreS_sLa x n k), cI (a22__markCoreS_sLa x n k), cS (mText (a17__markCoreS_sLa x n k)), Cell.list (a23__markCoreS_sLa x k), Cell.list (a19__markCoreS_sLa x k)]
abbrev a15__markCoreS_sLa (x : Core) (n : Int) (k : Nat) := (n + (a4__markCoreS_sLa x k) + 1 + 1 + (a11__markCoreS_sLa x k) + 1 + 1 + 1)
abbrev a5__markCoreS_sLa (x : Core) (n : Int) (k : Nat) := [cI (n + (a4__markCoreS_sLa x k)), cI (n + (a4__markCoreS_sLa x k) + 1), Cell.list (a13__markCoreS_sLa x n k), cI
 (a21__markCoreS_sLa x n k), cI (a22__markCoreS_sLa x n k), cS (mText (a17__markCoreS_sLa x n k)), Cell.list (List.map datumC (seqM mkD cD (a14__markCoreS_sLa x k)
 (a15__markCoreS_sLa x n k))), Cell.list (a19__markCoreS_sLa x k)]
abbrev a6__markCoreS_sLa (x : Core) (n : Int) (k : Nat) := [cI (n + (a4__markCoreS_sLa x k)), cI (n + (a4__markCoreS_sLa x k) + 1), Cell.list (a13__markCoreS_sLa x n k), cI
 (a21__markCoreS_sLa x n k), cI (a22__markCoreS_sLa x n k), cS (Datum.text (Core.datum (a1__markCoreS_sLa x k))), Cell.list (a23__markCoreS_sLa x k), Cell.list (a19__markCoreS_sLa
 x k)]
abbrev a7__markCoreS_sLa (x : Core) (n : Int) (k : Nat) := [cI (n + (a4__markCoreS_sLa x k)), cI (n + (a4__markCoreS_sLa x k) + 1), Cell.list (a13__markCoreS_sLa x n k), cI
 (a21__markCoreS_sLa x n k), cI (Datum.number (Core.datum (a1__markCoreS_sLa x k))), cS (Datum.text (Core.datum (a1__markCoreS_sLa x k))), Cell.list (a23__markCoreS_sLa x k),
 Cell.list (a19__markCoreS_sLa x k)]
abbrev a8__markCoreS_sLa (x : Core) (n : Int) (k : Nat) := [cI (n + (a4__markCoreS_sLa x k)), cI (n + (a4__markCoreS_sLa x k) + 1), Cell.list (a13__markCoreS_sLa x n k), cI
 (Datum.kind (Core.datum (a1__markCoreS_sLa x k))), cI (Datum.number (Core.datum (a1__markCoreS_sLa x k))), cS (Datum.text (Core.datum (a1__markCoreS_sLa x k))), Cell.list
 (a23__markCoreS_sLa x k), Cell.list (a19__markCoreS_sLa x k)]
abbrev a10__markCoreS_sLa (x : Core) (n : Int) (k : Nat) := [cI (n + (a4__markCoreS_sLa x k)), cI (Core.number (a1__markCoreS_sLa x k)), Cell.list (List.map intC (Core.params
 (a1__markCoreS_sLa x k))), cI (Datum.kind (Core.datum (a1__markCoreS_sLa x k))), cI (Datum.number (Core.datum (a1__markCoreS_sLa x k))), cS (Datum.text (Core.datum
 (a1__markCoreS_sLa x k))), Cell.list (a23__markCoreS_sLa x k), Cell.list (a19__markCoreS_sLa x k)]
abbrev a12__markCoreS_sLa (x : Core) (n : Int) (k : Nat) := (n + (a4__markCoreS_sLa x k) + 1 + 1 + (a11__markCoreS_sLa x k) + 1 + 1 + 1 + (↑(sumBy cD (a14__markCoreS_sLa x k)) :
 Int))
abbrev a16__markCoreS_sLa (x : Core) (n : Int) (k : Nat) := (List.set (a2__markCoreS_sLa x n k) (Int.toNat (↑k : Int)) (a3__markCoreS_sLa x n k))
abbrev a18__markCoreS_sLa (x : Core) (n : Int) (k : Nat) := (li (n + (a4__markCoreS_sLa x k) + 1 + 1 + (a11__markCoreS_sLa x k) + 1 + 1 + 1 + (↑(sumBy cD (a14__markCoreS_sLa x k))
 : Int) + (↑(sumBy cC (Core.kids (a1__markCoreS_sLa x k))) : Int)))
theorem run_c_markCoreS_sLa (x : Core) (n : Int) (k : Nat) : aexec Try.prog (loopAt Try.f116 0) (Lc_markCoreS_sLa x n k) [Orc.br [Orc.cells (coreF (a1__markCoreS_sLa x k)),
 Orc.take (a10__markCoreS_sLa x n k) (a2__markCoreS_sLa x n k) 0, Orc.sub, Orc.subcall (a9__markCoreS_sLa x n k) (List.map intC (Core.params (a1__markCoreS_sLa x k))) 1, Orc.call
 [Mode.own true 1, Mode.rd] [Ob.arr true 1 (a13__markCoreS_sLa x n k)] (AV.sv (li (a21__markCoreS_sLa x n k))), Orc.take (a8__markCoreS_sLa x n k) (List.set (a2__markCoreS_sLa x n
 k) (Int.toNat (↑k : Int)) (a7__markCoreS_sLa x n k)) 0, Orc.take (a7__markCoreS_sLa x n k) (List.set (a2__markCoreS_sLa x n k) (Int.toNat (↑k : Int)) (a6__markCoreS_sLa x n k)) 0,
 Orc.call [Mode.rd] [] (AV.sv (ls (mText (a17__markCoreS_sLa x n k)))), Orc.take (a6__markCoreS_sLa x n k) (a16__markCoreS_sLa x n k) 0, Orc.sub, Orc.subcall (a3__markCoreS_sLa x n
 k) (a23__markCoreS_sLa x k) 4, Orc.call [Mode.own true 4, Mode.rd] [Ob.arr true 4 (List.map datumC (seqM mkD cD (a14__markCoreS_sLa x k) (a15__markCoreS_sLa x n k)))] (AV.sv (li
 (a12__markCoreS_sLa x n k))), Orc.sub, Orc.subcall (a5__markCoreS_sLa x n k) (a19__markCoreS_sLa x k) 8, Orc.call [Mode.own true 8, Mode.rd] [Ob.arr true 8 (List.map coreC (seqM
 mkC cC (Core.kids (a1__markCoreS_sLa x k)) (a12__markCoreS_sLa x n k)))] (AV.sv (a18__markCoreS_sLa x n k)), Orc.ghost (Ghost.sel [0] [0, 1, 5]), Orc.goto (List.length (Core.kids
 x) - (k + 1)) (Lc_markCoreS_sLa x n (k + 1))] [Orc.ghost (Ghost.sel [0] [1]), Orc.out 0]] (loopK (Ic_markCoreS_sLa x n) (Yc_markCoreS_sLa x n) (List.length (Core.kids x) - k)) =
 (List.length (a20__markCoreS_sLa x n k) ≤ 9223372036854775807 → (decide ((↑k : Int) < (↑(List.length (a20__markCoreS_sLa x n k)) : Int)) = true → (0 ≤ (↑k : Int) ∧ Int.toNat (↑k :
 Int) < List.length (a20__markCoreS_sLa x n k)) ∧ (a20__markCoreS_sLa x n k)[Int.toNat (↑k : Int)]? = some (coreF (a1__markCoreS_sLa x k)) ∧ rng IntKind.i64 (n + (a4__markCoreS_sLa
 x k) + 1) ∧ (0 ≤ (↑k : Int) ∧ Int.toNat (↑k : Int) < List.length (List.set (a20__markCoreS_sLa x n k) (Int.toNat (↑k : Int)) (a10__markCoreS_sLa x n k))) ∧ (List.set
 (a20__markCoreS_sLa x n k) (Int.toNat (↑k : Int)) (a10__markCoreS_sLa x n k))[Int.toNat (↑k : Int)]? = some (a10__markCoreS_sLa x n k) ∧ List.set (List.set (a20__markCoreS_sLa x n
 k) (Int.toNat (↑k : Int)) (a10__markCoreS_sLa x n k)) (Int.toNat (↑k : Int)) (a9__markCoreS_sLa x n k) = List.set (a20__markCoreS_sLa x n k) (Int.toNat (↑k : Int))
 (a9__markCoreS_sLa x n k) ∧ rng IntKind.i64 (n + (a4__markCoreS_sLa x k) + 1 + 1) ∧ (0 ≤ (↑k : Int) ∧ Int.toNat (↑k : Int) < List.length (a2__markCoreS_sLa x n k)) ∧ Int.toNat (↑k
 : Int) < List.length (a2__markCoreS_sLa x n k) ∧ (a2__markCoreS_sLa x n k)[Int.toNat (↑k : Int)]? = some (a9__markCoreS_sLa x n k) ∧ some (Cell.list (List.map intC (Core.params
 (a1__markCoreS_sLa x k)))) = some (Cell.list (List.map intC (Core.params (a1__markCoreS_sLa x k)))) ∧ (∀ (x_1 : List Cell), x_1 ∈ List.map intC (Core.params (a1__markCoreS_sLa x
 k)) → List.length x_1 = 1) ∧ P_c_markIntS (Core.params (a1__markCoreS_sLa x k)) (n + (a4__markCoreS_sLa x k) + 1 + 1) ∧ (0 ≤ (↑k : Int) ∧ Int.toNat (↑k : Int) < List.length
 (List.set (a2__markCoreS_sLa x n k) (Int.toNat (↑k : Int)) (a8__markCoreS_sLa x n k))) ∧ (List.set (a2__markCoreS_sLa x n k) (Int.toNat (↑k : Int)) (a8__markCoreS_sLa x n
 k))[Int.toNat (↑k : Int)]? = some (a8__markCoreS_sLa x n k) ∧ List.set (List.set (a2__markCoreS_sLa x n k) (Int.toNat (↑k : Int)) (a8__markCoreS_sLa x n k)) (Int.toNat (↑k : Int))
 (a7__markCoreS_sLa x n k) = List.set (a2__markCoreS_sLa x n k) (Int.toNat (↑k : Int)) (a7__markCoreS_sLa x n k) ∧ rng IntKind.i64 (a22__markCoreS_sLa x n k) ∧ (0 ≤ (↑k : Int) ∧
 Int.toNat (↑k : Int) < List.length (List.set (a2__markCoreS_sLa x n k) (Int.toNat (↑k : Int)) (a7__markCoreS_sLa x n k))) ∧ (List.set (a2__markCoreS_sLa x n k) (Int.toNat (↑k :
 Int)) (a7__markCoreS_sLa x n k))[Int.toNat (↑k : Int)]? = some (a7__markCoreS_sLa x n k) ∧ List.set (List.set (a2__markCoreS_sLa x n k) (Int.toNat (↑k : Int)) (a7__markCoreS_sLa x
 n k)) (Int.toNat (↑k : Int)) (a6__markCoreS_sLa x n k) = List.set (a2__markCoreS_sLa x n k) (Int.toNat (↑k : Int)) (a6__markCoreS_sLa x n k) ∧ rng IntKind.i64 (a17__markCoreS_sLa
 x n k) ∧ P_c_markText (a17__markCoreS_sLa x n k) ∧ (0 ≤ (↑k : Int) ∧ Int.toNat (↑k : Int) < List.length (List.set (a2__markCoreS_sLa x n k) (Int.toNat (↑k : Int))
 (a6__markCoreS_sLa x n k))) ∧ (List.set (a2__markCoreS_sLa x n k) (Int.toNat (↑k : Int)) (a6__markCoreS_sLa x n k))[Int.toNat (↑k : Int)]? = some (a6__markCoreS_sLa x n k) ∧
 List.set (List.set (a2__markCoreS_sLa x n k) (Int.toNat (↑k : Int)) (a6__markCoreS_sLa x n k)) (Int.toNat (↑k : Int)) (a3__markCoreS_sLa x n k) = List.set (a2__markCoreS_sLa x n
 k) (Int.toNat (↑k : Int)) (a3__markCoreS_sLa x n k) ∧ rng IntKind.i64 (a15__markCoreS_sLa x n k) ∧ (0 ≤ (↑k : Int) ∧ Int.toNat (↑k : Int) < List.length (a16__markCoreS_sLa x n k))
 ∧ Int.toNat (↑k : Int) < List.length (a16__markCoreS_sLa x n k) ∧ (a16__markCoreS_sLa x n k)[Int.toNat (↑k : Int)]? = some (a3__markCoreS_sLa x n k) ∧ some (Cell.list
 (a23__markCoreS_sLa x k)) = some (Cell.list (a23__markCoreS_sLa x k)) ∧ (∀ (x_1 : List Cell), x_1 ∈ List.map datumC (a14__markCoreS_sLa x k) → List.length x_1 = 4) ∧ CallOK
 Try.prog 115 [Ob.arr true 4 (a23__markCoreS_sLa x k)] [SV.one (AC.ref 0), li (a15__markCoreS_sLa x n k)] [Ob.arr true 4 (List.map datumC (seqM mkD cD (a14__markCoreS_sLa x k)
 (a15__markCoreS_sLa x n k)))] (AV.sv (li (a12__markCoreS_sLa x n k))) ∧ (0 ≤ (↑k : Int) ∧ Int.toNat (↑k : Int) < List.length (List.set (a16__markCoreS_sLa x n k) (Int.toNat (↑k :
 Int)) (a5__markCoreS_sLa x n k))) ∧ Int.toNat (↑k : Int) < List.length (List.set (a16__markCoreS_sLa x n k) (Int.toNat (↑k : Int)) (a5__markCoreS_sLa x n k)) ∧ (List.set
 (a16__markCoreS_sLa x n k) (Int.toNat (↑k : Int)) (a5__markCoreS_sLa x n k))[Int.toNat (↑k : Int)]? = some (a5__markCoreS_sLa x n k) ∧ some (Cell.list (a19__markCoreS_sLa x k)) =
 some (Cell.list (a19__markCoreS_sLa x k)) ∧ (∀ (x_1 : List Cell), x_1 ∈ List.map coreC (Core.kids (a1__markCoreS_sLa x k)) → List.length x_1 = 8) ∧ CallOK Try.prog 116 [Ob.arr
 true 8 (a19__markCoreS_sLa x k)] [SV.one (AC.ref 0), li (a12__markCoreS_sLa x n k)] [Ob.arr true 8 (List.map coreC (seqM mkC cC (Core.kids (a1__markCoreS_sLa x k))
 (a12__markCoreS_sLa x n k)))] (AV.sv (a18__markCoreS_sLa x n k)) ∧ rng IntKind.i64 ((↑k : Int) + 1) ∧ List.length (Core.kids x) - (k + 1) < List.length (Core.kids x) - k ∧
 Tc_markCoreS_sLa x n (li ((↑k : Int) + 1)) (a18__markCoreS_sLa x n k) (Ob.arr true 8 (List.set (List.set (a16__markCoreS_sLa x n k) (Int.toNat (↑k : Int)) (a5__markCoreS_sLa x n
 k)) (Int.toNat (↑k : Int)) [cI (n + (a4__markCoreS_sLa x k)), cI (n + (a4__markCoreS_sLa x k) + 1), Cell.list (a13__markCoreS_sLa x n k), cI (a21__markCoreS_sLa x n k), cI
 (a22__markCoreS_sLa x n k), cS (mText (a17__markCoreS_sLa x n k)), Cell.list (List.map datumC (seqM mkD cD (a14__markCoreS_sLa x k) (a15__markCoreS_sLa x n k))), Cell.list
 (List.map coreC (seqM mkC cC (Core.kids (a1__markCoreS_sLa x k)) (a12__markCoreS_sLa x n k)))])) = Lc_markCoreS_sLa x n (k + 1) ∧ Ic_markCoreS_sLa x n (List.length (Core.kids x) -
 (k + 1)) (Lc_markCoreS_sLa x n (k + 1))) ∧ (decide ((↑k : Int) < (↑(List.length (a20__markCoreS_sLa x n k)) : Int)) = false → True ∧ W0c_markCoreS_sLa x n (li (n +
 (a4__markCoreS_sLa x k))) (Ob.arr true 8 (a20__markCoreS_sLa x n k)) = W0c_markCoreS_sLa x n (li (n + (↑(sumBy cC (Core.kids x)) : Int))) (Ob.arr true 8 (List.map coreC (seqM mkC
 cC (Core.kids x) n))))) := by kernel_rfl
theorem Sc_markCoreS_sLa (x : Core) (n : Int) (h0 : 0 ≤ n) (h : n + (↑(sumBy cC (Core.kids x)) : Int) ≤ 2147483647) (ih : ∀ (z : Core), z ∈ Core.kids x → ∀ (n : Int), 0 ≤ n → n +
 (↑(sumBy cC (Core.kids z)) : Int) ≤ 2147483647 → P_c_markCoreS z n)  : LoopSem Try.prog (loopAt Try.f116 0) (Ic_markCoreS_sLa x n) (Yc_markCoreS_sLa x n) := by
  refine LoopSem.ofHead wide fun k h => ⟨_, _, run_c_markCoreS_sLa x n k, ?_⟩
  try delta a1__markCoreS_sLa a20__markCoreS_sLa a4__markCoreS_sLa a14__markCoreS_sLa a23__markCoreS_sLa a19__markCoreS_sLa a9__markCoreS_sLa a2__markCoreS_sLa a13__markCoreS_sLa a11__markCoreS_sLa a21__markCoreS_sLa a22__markCoreS_sLa a17__markCoreS_sLa a3__markCoreS_sLa a15__markCoreS_sLa a5__markCoreS_sLa a6__markCoreS_sLa a7__markCoreS_sLa a8__markCoreS_sLa a10__markCoreS_sLa a12__markCoreS_sLa a16__markCoreS_sLa a18__markCoreS_sLa
  have g0 := sumBy_takeLe cC x.kids (k + 1)
  with_reducible repeat' (first | apply And.intro | exact flatI | exact flatS | exact rowLens | exact ih | (intro; skip) | apply obsN | apply obsC | apply obA | apply obM | apply obB | apply svA | apply tupA | apply lcA | apply lcS | apply svC | apply liC | apply lbC | apply lsC | apply vIc | apply vBc | apply vSc | apply vLc | apply mapC | apply Hc_markCoreS_sLa | apply Ec_markCoreS_sLa | apply EW0c_markCoreS_sLa | apply c_markIntS | apply c_markText | apply c_markDatumS | apply c_markDatumSL | apply ih)
  all_goals (try simp only [std, stdM] at *)
  all_goals (try (first | with_reducible rfl | omega | assumption | (refine (decide_eq_true ?_).symm; assumption) | (refine (decide_eq_false ?_).symm; assumption) | (refine rowGet ?_; (first | omega | (simp only [std, stdM]; omega) | grind)) | (refine getC ?_ rfl; (first | omega | (simp only [std, stdM]; omega) | grind)) | (refine fill_step ?_ ?_; (first | omega | (simp only [std, stdM]; omega) | grind); (first | rfl | exact (Row.eq _).trans rfl)) | (refine fill_init ?_; (first | rfl | exact (Row.eq _).trans rfl)) | (refine set_row ?_; (simp only [List.length_map, List.length_set, mkTo_len]; omega)) | (refine mkToRow ?_; (first | omega | (simp only [std, stdM]; omega) | grind)) | (refine mkTo_row ?_ rfl; (first | omega | (simp only [std, stdM]; omega) | grind)) | (refine mkTo_step ?_ ?_; (first | omega | (simp only [std, stdM]; omega) | grind); (first | exact mkC_C _ _ | grind [sumBy_step, getD_mem', cC_eq, mkC_C, mkTo_all, snocI, snocS, rowSnoc])) | grind [sumBy_step, getD_mem', cC_eq, mkC_C, mkTo_all, snocI, snocS, rowSnoc]))
theorem run_c_markCoreS_s (x : Core) (n : Int) : aexec Try.prog (Option.getD (Func.body Try.f116) Code.skip) (entry [Ob.arr true 8 (List.map coreC (Core.kids x))] [SV.one (AC.ref
 0), li n] 74) [Orc.ghost (Ghost.sel [0] [0, 1, 5]), Orc.loop (List.length (Core.kids x) - 0) (Lc_markCoreS_sLa x n 0) (Ic_markCoreS_sLa x n) [(True, AEx.exit 0, W0c_markCoreS_sLa
 x n (li (n + (↑(sumBy cC (Core.kids x)) : Int))) (Ob.arr true 8 (List.map coreC (seqM mkC cC (Core.kids x) n))), [Orc.fin []])]] (finK Try.prog [ResultVar.tmp 4] [Ob.arr true 8
 (List.map coreC (seqM mkC cC (Core.kids x) n))] (AV.sv (li (n + (↑(sumBy cC (Core.kids x)) : Int))))) = (Tc_markCoreS_sLa x n (li 0) (li n) (Ob.arr true 8 (List.map coreC
 (Core.kids x))) = Lc_markCoreS_sLa x n 0 ∧ Ic_markCoreS_sLa x n (List.length (Core.kids x) - 0) (Lc_markCoreS_sLa x n 0) ∧ LoopSem Try.prog (loopAt Try.f116 0) (Ic_markCoreS_sLa x
 n) (Yc_markCoreS_sLa x n) ∧ (True → ObsEq [Ob.arr true 8 (List.map coreC (seqM mkC cC (Core.kids x) n))] [Ob.arr true 8 (List.map coreC (seqM mkC cC (Core.kids x) n))] ∧ AV.sv (li
 (n + (↑(sumBy cC (Core.kids x)) : Int))) = AV.sv (li (n + (↑(sumBy cC (Core.kids x)) : Int)))) ∧ True) := by kernel_rfl
theorem c_markCoreS_s (x : Core) (n : Int) (h0 : 0 ≤ n) (h : n + sumBy cC x.kids ≤ 2147483647) (ih : ∀ z ∈ x.kids, ∀ (n : Int) (h0 : 0 ≤ n) (h : n + sumBy cC z.kids ≤ 2147483647),
 P_c_markCoreS z n)  : P_c_markCoreS x n := by
  refine CallOK.ofRun wide (run_c_markCoreS_s x n) Try.call116 Try.func116 rfl rfl rfl ?_
  have gl := cC_len x.kids
  with_reducible repeat' (first | apply And.intro | exact flatI | exact flatS | exact rowLens | exact ih | (intro; skip) | apply obsN | apply obsC | apply obA | apply obM | apply obB | apply svA | apply tupA | apply lcA | apply lcS | apply svC | apply liC | apply lbC | apply lsC | apply vIc | apply vBc | apply vSc | apply vLc | apply mapC | apply Hc_markCoreS_sLa | apply Ec_markCoreS_sLa | apply Sc_markCoreS_sLa | apply EW0c_markCoreS_sLa | apply c_markIntS | apply c_markText | apply c_markDatumS | apply c_markDatumSL)
  all_goals (try simp only [std, stdM] at *)
  all_goals (try (first | with_reducible rfl | omega | assumption | (refine (decide_eq_true ?_).symm; assumption) | (refine (decide_eq_false ?_).symm; assumption) | (refine rowGet ?_; (first | omega | (simp only [std, stdM]; omega) | grind)) | (refine getC ?_ rfl; (first | omega | (simp only [std, stdM]; omega) | grind)) | (refine fill_step ?_ ?_; (first | omega | (simp only [std, stdM]; omega) | grind); (first | rfl | exact (Row.eq _).trans rfl)) | (refine fill_init ?_; (first | rfl | exact (Row.eq _).trans rfl)) | (refine set_row ?_; (simp only [List.length_map, List.length_set, mkTo_len]; omega)) | (refine mkToRow ?_; (first | omega | (simp only [std, stdM]; omega) | grind)) | (refine mkTo_row ?_ rfl; (first | omega | (simp only [std, stdM]; omega) | grind)) | (refine mkTo_step ?_ ?_; (first | omega | (simp only [std, stdM]; omega) | grind); (first | grind [mkTo_all, snocI, snocS, rowSnoc])) | grind [mkTo_all, snocI, snocS, rowSnoc]))
theorem c_markCoreS (x : Core) : ∀ (n : Int) (h0 : 0 ≤ n) (h : n + sumBy cC x.kids ≤ 2147483647), P_c_markCoreS x n := Core.ind (P := fun x => ∀ (n : Int) (h0 : 0 ≤ n) (h : n + sumBy cC x.kids ≤ 2147483647), P_c_markCoreS x n) (fun x ih n h0 h => c_markCoreS_s x n h0 h ih) x
theorem c_markCoreSL (L : List Core) (n : Int) (h0 : 0 ≤ n) (h : n + sumBy cC L ≤ 2147483647) : P_c_markCoreS { (default : Core) with kids := L } n := c_markCoreS { (default : Core) with kids := L } n h0 h
abbrev P_c_markCore (x : Core) (n : Int) : Prop := CallOK Try.prog 103 [.arr true 1 (x.params.map intC), .arr true 4 (x.datum.items.map datumC), .arr true 8 (x.kids.map coreC)] [.agg [vI x.kind, vI x.number, .ref 0, vI x.datum.kind, vI x.datum.number, vS x.datum.text, .ref 1, .ref 2], li n] [.arr true 1 ((seqM mkI cOne x.params (n)).map intC), .arr true 4 ((seqM mkD cD x.datum.items (n + x.params.length)).map datumC), .arr true 8 ((seqM mkC cC x.kids (n + x.params.length + sumBy cD x.datum.items)).map coreC)] (.sv (li (n + x.params.length + sumBy cD x.datum.items + sumBy cC x.kids)))
theorem run_c_markCore (x : Core) (n : Int) : aexec Try.prog (Option.getD (Func.body Try.f103) Code.skip) (entry [Ob.arr true 1 (List.map intC (Core.params x)), Ob.arr true 4
 (List.map datumC (Datum.items (Core.datum x))), Ob.arr true 8 (List.map coreC (Core.kids x))] [SV.agg [vI (Core.kind x), vI (Core.number x), AC.ref 0, vI (Datum.kind (Core.datum
 x)), vI (Datum.number (Core.datum x)), vS (Datum.text (Core.datum x)), AC.ref 1, AC.ref 2], li n] 18) [Orc.call [Mode.own true 1, Mode.rd] [Ob.arr true 1 (List.map intC (seqM mkI
 cOne (Core.params x) n))] (AV.sv (li (n + (↑(List.length (Core.params x)) : Int)))), Orc.call [Mode.agg [none, none, none, some (true, 4)], Mode.rd] [Ob.arr true 4 (List.map
 datumC (seqM mkD cD (Datum.items (Core.datum x)) (n + (↑(List.length (Core.params x)) : Int))))] (AV.sv (li (n + (↑(List.length (Core.params x)) : Int) + (↑(sumBy cD (Datum.items
 (Core.datum x))) : Int)))), Orc.call [Mode.own true 8, Mode.rd] [Ob.arr true 8 (List.map coreC (seqM mkC cC (Core.kids x) (n + (↑(List.length (Core.params x)) : Int) + (↑(sumBy cD
 (Datum.items (Core.datum x))) : Int))))] (AV.sv (li (n + (↑(List.length (Core.params x)) : Int) + (↑(sumBy cD (Datum.items (Core.datum x))) : Int) + (↑(sumBy cC (Core.kids x)) :
 Int)))), Orc.fin []] (finK Try.prog [ResultVar.tmp 4] [Ob.arr true 1 (List.map intC (seqM mkI cOne (Core.params x) n)), Ob.arr true 4 (List.map datumC (seqM mkD cD (Datum.items
 (Core.datum x)) (n + (↑(List.length (Core.params x)) : Int)))), Ob.arr true 8 (List.map coreC (seqM mkC cC (Core.kids x) (n + (↑(List.length (Core.params x)) : Int) + (↑(sumBy cD
 (Datum.items (Core.datum x))) : Int))))] (AV.sv (li (n + (↑(List.length (Core.params x)) : Int) + (↑(sumBy cD (Datum.items (Core.datum x))) : Int) + (↑(sumBy cC (Core.kids x)) :
 Int))))) = (P_c_markIntS (Core.params x) n ∧ P_c_markDatum (Core.datum x) (n + (↑(List.length (Core.params x)) : Int)) ∧ CallOK Try.prog 116 [Ob.arr true 8 (List.map coreC
 (Core.kids x))] [SV.one (AC.ref 0), li (n + (↑(List.length (Core.params x)) : Int) + (↑(sumBy cD (Datum.items (Core.datum x))) : Int))] [Ob.arr true 8 (List.map coreC (seqM mkC cC
 (Core.kids x) (n + (↑(List.length (Core.params x)) : Int) + (↑(sumBy cD (Datum.items (Core.datum x))) : Int))))] (AV.sv (li (n + (↑(List.length (Core.params x)) : Int) + (↑(sumBy
 cD (Datum.items (Core.datum x))) : Int) + (↑(sumBy cC (Core.kids x)) : Int)))) ∧ ObsEq [Ob.arr true 1 (List.map intC (seqM mkI cOne (Core.params x) n)), Ob.arr true 4 (List.map
 datumC (seqM mkD cD (Datum.items (Core.datum x)) (n + (↑(List.length (Core.params x)) : Int)))), Ob.arr true 8 (List.map coreC (seqM mkC cC (Core.kids x) (n + (↑(List.length
 (Core.params x)) : Int) + (↑(sumBy cD (Datum.items (Core.datum x))) : Int))))] [Ob.arr true 1 (List.map intC (seqM mkI cOne (Core.params x) n)), Ob.arr true 4 (List.map datumC
 (seqM mkD cD (Datum.items (Core.datum x)) (n + (↑(List.length (Core.params x)) : Int)))), Ob.arr true 8 (List.map coreC (seqM mkC cC (Core.kids x) (n + (↑(List.length (Core.params
 x)) : Int) + (↑(sumBy cD (Datum.items (Core.datum x))) : Int))))] ∧ AV.sv (li (n + (↑(List.length (Core.params x)) : Int) + (↑(sumBy cD (Datum.items (Core.datum x))) : Int) +
 (↑(sumBy cC (Core.kids x)) : Int))) = AV.sv (li (n + (↑(List.length (Core.params x)) : Int) + (↑(sumBy cD (Datum.items (Core.datum x))) : Int) + (↑(sumBy cC (Core.kids x)) :
 Int)))) := by kernel_rfl
theorem c_markCore (x : Core) (n : Int) (h0 : 0 ≤ n) (h : n + (x.params.length + sumBy cD x.datum.items + sumBy cC x.kids : Nat) ≤ 2147483647)  : P_c_markCore x n := by
  refine CallOK.ofRun wide (run_c_markCore x n) Try.call103 Try.func103 rfl rfl rfl ?_
  with_reducible repeat' (first | apply And.intro | exact flatI | exact flatS | exact rowLens | (intro; skip) | apply obsN | apply obsC | apply obA | apply obM | apply obB | apply svA | apply tupA | apply lcA | apply lcS | apply svC | apply liC | apply lbC | apply lsC | apply vIc | apply vBc | apply vSc | apply vLc | apply mapC | apply c_markIntS | apply c_markDatum | apply c_markCoreS | apply c_markCoreSL)
  all_goals (try simp only [std, stdM] at *)
  all_goals (try (first | with_reducible rfl | omega | assumption | (refine (decide_eq_true ?_).symm; assumption) | (refine (decide_eq_false ?_).symm; assumption) | (refine rowGet ?_; (first | omega | (simp only [std, stdM]; omega) | grind)) | (refine getC ?_ rfl; (first | omega | (simp only [std, stdM]; omega) | grind)) | (refine fill_step ?_ ?_; (first | omega | (simp only [std, stdM]; omega) | grind); (first | rfl | exact (Row.eq _).trans rfl)) | (refine fill_init ?_; (first | rfl | exact (Row.eq _).trans rfl)) | (refine set_row ?_; (simp only [List.length_map, List.length_set, mkTo_len]; omega)) | (refine mkToRow ?_; (first | omega | (simp only [std, stdM]; omega) | grind)) | (refine mkTo_row ?_ rfl; (first | omega | (simp only [std, stdM]; omega) | grind)) | (refine mkTo_step ?_ ?_; (first | omega | (simp only [std, stdM]; omega) | grind); (first | grind [snocI, snocS, rowSnoc])) | grind [snocI, snocS, rowSnoc]))
end Go.Proofs.Ytehpjofddjmbpaa
end
section
namespace Go.Proofs.Ytehpjofddjmbpaa
open Go Go.Proofs.Ytehpjofddjmbpaa.Ab
set_option linter.unusedVariables false
set_option linter.unusedSimpArgs false
set_option maxHeartbeats 4000000
abbrev P_c_heldIntS (L : List Int) (n : Int) : Prop := CallOK Try.prog 32 [] [ll (L.map intC), li n] [] (.sv (li (n + L.length)))
def Tc_heldIntSLa (L : List Int) (n : Int) (x0 : SV) (x1 : SV) : St := St.mk (regsOf 21 [(0, AV.sv (ll (List.map intC L))), (1, AV.sv x1), (5, AV.sv x0)]) [] 0 
def Lc_heldIntSLa (L : List Int) (n : Int) (k : Nat) : St := Tc_heldIntSLa L n (li (↑k : Int)) (li (n + (↑k : Int))) 
def Ic_heldIntSLa (L : List Int) (n : Int) : Nat → St → Prop := Head (Lc_heldIntSLa L n) (fun k => k ≤ List.length L ∧ List.length L ≤ 9223372036854775807) fun k => List.length L -
 k 
def W0c_heldIntSLa (L : List Int) (n : Int) (x0 : SV) : St := St.mk (regsOf 21 [(1, AV.sv x0)]) [] 0 
def W1c_heldIntSLa (L : List Int) (n : Int) (x0 : SV) : St := St.mk (regsOf 21 [(4, AV.sv x0)]) [] 0 
def Yc_heldIntSLa (L : List Int) (n : Int) : List (Prop × AEx × St) := [(True, AEx.exit 0, W0c_heldIntSLa L n (li (n + (↑(List.length L) : Int)))), (False, AEx.ret, W1c_heldIntSLa
 L n (li (-1 : Int)))]
theorem Hc_heldIntSLa {L : List Int} {n : Int} {k : Nat} {m : Nat} (h : (fun k => k ≤ List.length L ∧ List.length L ≤ 9223372036854775807) k) (hm : (fun k => List.length L - k) k =
 m) : Ic_heldIntSLa L n m (Lc_heldIntSLa L n k) := hm ▸ Head.mk h
theorem Ec_heldIntSLa {L : List Int} {n : Int} {k : Nat} {x0 : SV} {x1 : SV} (h0 : x0 = (li (↑k : Int))) (h1 : x1 = (li (n + (↑k : Int)))) : Tc_heldIntSLa L n x0 x1 = Lc_heldIntSLa
 L n k := by
  rw [h0, h1]
  rfl
theorem EW0c_heldIntSLa {L : List Int} {n : Int} {x0 y0 : SV} (h0 : x0 = y0) : W0c_heldIntSLa L n x0 = W0c_heldIntSLa L n y0 := by rw [h0]
theorem EW1c_heldIntSLa {L : List Int} {n : Int} {x0 y0 : SV} (h0 : x0 = y0) : W1c_heldIntSLa L n x0 = W1c_heldIntSLa L n y0 := by rw [h0]
theorem run_c_heldIntSLa (L : List Int) (n : Int) (k : Nat) : aexec Try.prog (loopAt Try.f32 0) (Lc_heldIntSLa L n k) [Orc.br [Orc.cells (intC (List.getD L k default)), Orc.br
 [Orc.ghost (Ghost.sel [] [4]), Orc.out 1] [Orc.ghost (Ghost.sel [] [0, 1, 5]), Orc.goto (List.length L - (k + 1)) (Lc_heldIntSLa L n (k + 1))]] [Orc.ghost (Ghost.sel [] [1]),
 Orc.out 0]] (loopK (Ic_heldIntSLa L n) (Yc_heldIntSLa L n) (List.length L - k)) = (List.length (List.map intC L) ≤ 9223372036854775807 → (decide ((↑k : Int) < (↑(List.length
 (List.map intC L)) : Int)) = true → (0 ≤ (↑k : Int) ∧ (List.map intC L)[Int.toNat (↑k : Int)]? = some [cI (List.getD L k 0)]) ∧ (decide (List.getD L k (0 : Int) ≠ n + (↑k : Int))
 = true → False ∧ W1c_heldIntSLa L n (li (-1 : Int)) = W1c_heldIntSLa L n (li (-1 : Int))) ∧ (decide (List.getD L k (0 : Int) ≠ n + (↑k : Int)) = false → rng IntKind.i64 (n + (↑k :
 Int) + 1) ∧ rng IntKind.i64 ((↑k : Int) + 1) ∧ List.length L - (k + 1) < List.length L - k ∧ Tc_heldIntSLa L n (li ((↑k : Int) + 1)) (li (n + (↑k : Int) + 1)) = Lc_heldIntSLa L n
 (k + 1) ∧ Ic_heldIntSLa L n (List.length L - (k + 1)) (Lc_heldIntSLa L n (k + 1)))) ∧ (decide ((↑k : Int) < (↑(List.length (List.map intC L)) : Int)) = false → True ∧
 W0c_heldIntSLa L n (li (n + (↑k : Int))) = W0c_heldIntSLa L n (li (n + (↑(List.length L) : Int))))) := by kernel_rfl
theorem Sc_heldIntSLa (L : List Int) (n : Int) (h0 : 0 ≤ n) (h : n + (↑(List.length L) : Int) ≤ 2147483647) (hm : seqM mkI cOne L n = L)  : LoopSem Try.prog (loopAt Try.f32 0)
 (Ic_heldIntSLa L n) (Yc_heldIntSLa L n) := by
  refine LoopSem.ofHead wide fun k h => ⟨_, _, run_c_heldIntSLa L n k, ?_⟩
  with_reducible repeat' (first | apply And.intro | exact flatI | exact flatS | exact rowLens | (intro; skip) | apply obsN | apply obsC | apply obA | apply obM | apply obB | apply svA | apply tupA | apply lcA | apply lcS | apply svC | apply liC | apply lbC | apply lsC | apply vIc | apply vBc | apply vSc | apply vLc | apply mapC | apply Hc_heldIntSLa | apply Ec_heldIntSLa | apply EW0c_heldIntSLa | apply EW1c_heldIntSLa)
  all_goals (try simp only [std, stdM] at *)
  all_goals (try (first | with_reducible rfl | omega | assumption | (refine (decide_eq_true ?_).symm; assumption) | (refine (decide_eq_false ?_).symm; assumption) | (refine rowGet ?_; (first | omega | (simp only [std, stdM]; omega) | grind)) | (refine getC ?_ rfl; (first | omega | (simp only [std, stdM]; omega) | grind)) | (refine fill_step ?_ ?_; (first | omega | (simp only [std, stdM]; omega) | grind); (first | rfl | exact (Row.eq _).trans rfl)) | (refine fill_init ?_; (first | rfl | exact (Row.eq _).trans rfl)) | (refine set_row ?_; (simp only [List.length_map, List.length_set, mkTo_len]; omega)) | (refine mkToRow ?_; (first | omega | (simp only [std, stdM]; omega) | grind)) | (refine mkTo_row ?_ rfl; (first | omega | (simp only [std, stdM]; omega) | grind)) | (refine mkTo_step ?_ ?_; (first | omega | (simp only [std, stdM]; omega) | grind); (first | grind [seqI_get hm, snocI, snocS, rowSnoc])) | grind [seqI_get hm, snocI, snocS, rowSnoc]))
theorem run_c_heldIntS (L : List Int) (n : Int) : aexec Try.prog (Option.getD (Func.body Try.f32) Code.skip) (entry [] [ll (List.map intC L), li n] 21) [Orc.ghost (Ghost.sel [] [0,
 1, 5]), Orc.loop (List.length L - 0) (Lc_heldIntSLa L n 0) (Ic_heldIntSLa L n) [(True, AEx.exit 0, W0c_heldIntSLa L n (li (n + (↑(List.length L) : Int))), [Orc.fin []]), (False,
 AEx.ret, W1c_heldIntSLa L n (li (-1 : Int)), [Orc.fin []])]] (finK Try.prog [ResultVar.tmp 4] [] (AV.sv (li (n + (↑(List.length L) : Int))))) = (Tc_heldIntSLa L n (li 0) (li n) =
 Lc_heldIntSLa L n 0 ∧ Ic_heldIntSLa L n (List.length L - 0) (Lc_heldIntSLa L n 0) ∧ LoopSem Try.prog (loopAt Try.f32 0) (Ic_heldIntSLa L n) (Yc_heldIntSLa L n) ∧ (True → ObsEq []
 [] ∧ AV.sv (li (n + (↑(List.length L) : Int))) = AV.sv (li (n + (↑(List.length L) : Int)))) ∧ (False → ObsEq [] [] ∧ AV.sv (li (-1 : Int)) = AV.sv (li (n + (↑(List.length L) :
 Int)))) ∧ True) := by kernel_rfl
theorem c_heldIntS (L : List Int) (n : Int) (h0 : 0 ≤ n) (h : n + L.length ≤ 2147483647) (hm : seqM mkI cOne L n = L)  : P_c_heldIntS L n := by
  refine CallOK.ofRun wide (run_c_heldIntS L n) Try.call32 Try.func32 rfl rfl rfl ?_
  with_reducible repeat' (first | apply And.intro | exact flatI | exact flatS | exact rowLens | (intro; skip) | apply obsN | apply obsC | apply obA | apply obM | apply obB | apply svA | apply tupA | apply lcA | apply lcS | apply svC | apply liC | apply lbC | apply lsC | apply vIc | apply vBc | apply vSc | apply vLc | apply mapC | apply Hc_heldIntSLa | apply Ec_heldIntSLa | apply Sc_heldIntSLa | apply EW0c_heldIntSLa | apply EW1c_heldIntSLa)
  all_goals (try simp only [std, stdM] at *)
  all_goals (try (first | with_reducible rfl | omega | assumption | (refine (decide_eq_true ?_).symm; assumption) | (refine (decide_eq_false ?_).symm; assumption) | (refine rowGet ?_; (first | omega | (simp only [std, stdM]; omega) | grind)) | (refine getC ?_ rfl; (first | omega | (simp only [std, stdM]; omega) | grind)) | (refine fill_step ?_ ?_; (first | omega | (simp only [std, stdM]; omega) | grind); (first | rfl | exact (Row.eq _).trans rfl)) | (refine fill_init ?_; (first | rfl | exact (Row.eq _).trans rfl)) | (refine set_row ?_; (simp only [List.length_map, List.length_set, mkTo_len]; omega)) | (refine mkToRow ?_; (first | omega | (simp only [std, stdM]; omega) | grind)) | (refine mkTo_row ?_ rfl; (first | omega | (simp only [std, stdM]; omega) | grind)) | (refine mkTo_step ?_ ?_; (first | omega | (simp only [std, stdM]; omega) | grind); (first | grind [snocI, snocS, rowSnoc])) | grind [snocI, snocS, rowSnoc]))
abbrev P_c_heldDatumS (x : Datum) (n : Int) : Prop := CallOK Try.prog 147 [] [ll (x.items.map datumC), li n] [] (.sv (li (n + sumBy cD x.items)))
def Tc_heldDatumS_sLa (x : Datum) (n : Int) (x0 : SV) (x1 : SV) : St := St.mk (regsOf 50 [(0, AV.sv (ll (List.map datumC (Datum.items x)))), (1, AV.sv x1), (5, AV.sv x0)]) [] 0 
def Lc_heldDatumS_sLa (x : Datum) (n : Int) (k : Nat) : St := Tc_heldDatumS_sLa x n (li (↑k : Int)) (li (n + (↑(sumBy cD (List.take k (Datum.items x))) : Int))) 
def Ic_heldDatumS_sLa (x : Datum) (n : Int) : Nat → St → Prop := Head (Lc_heldDatumS_sLa x n) (fun k => k ≤ List.length (Datum.items x) ∧ List.length (Datum.items x) ≤
 9223372036854775807) fun k => List.length (Datum.items x) - k 
def W0c_heldDatumS_sLa (x : Datum) (n : Int) (x0 : SV) : St := St.mk (regsOf 50 [(1, AV.sv x0)]) [] 0 
def W1c_heldDatumS_sLa (x : Datum) (n : Int) (x0 : SV) : St := St.mk (regsOf 50 [(4, AV.sv x0)]) [] 0 
def Yc_heldDatumS_sLa (x : Datum) (n : Int) : List (Prop × AEx × St) := [(True, AEx.exit 0, W0c_heldDatumS_sLa x n (li (n + (↑(sumBy cD (Datum.items x)) : Int)))), (False, AEx.ret,
 W1c_heldDatumS_sLa x n (li (-1 : Int)))]
theorem Hc_heldDatumS_sLa {x : Datum} {n : Int} {k : Nat} {m : Nat} (h : (fun k => k ≤ List.length (Datum.items x) ∧ List.length (Datum.items x) ≤ 9223372036854775807) k) (hm :
 (fun k => List.length (Datum.items x) - k) k = m) : Ic_heldDatumS_sLa x n m (Lc_heldDatumS_sLa x n k) := hm ▸ Head.mk h
theorem Ec_heldDatumS_sLa {x : Datum} {n : Int} {k : Nat} {x0 : SV} {x1 : SV} (h0 : x0 = (li (↑k : Int))) (h1 : x1 = (li (n + (↑(sumBy cD (List.take k (Datum.items x))) : Int)))) :
 Tc_heldDatumS_sLa x n x0 x1 = Lc_heldDatumS_sLa x n k := by
  rw [h0, h1]
  rfl
theorem EW0c_heldDatumS_sLa {x : Datum} {n : Int} {x0 y0 : SV} (h0 : x0 = y0) : W0c_heldDatumS_sLa x n x0 = W0c_heldDatumS_sLa x n y0 := by rw [h0]
theorem EW1c_heldDatumS_sLa {x : Datum} {n : Int} {x0 y0 : SV} (h0 : x0 = y0) : W1c_heldDatumS_sLa x n x0 = W1c_heldDatumS_sLa x n y0 := by rw [h0]
abbrev a1__heldDatumS_sLa (x : Datum) (k : Nat) := (↑(sumBy cD (List.take k (Datum.items x))) : Int)
abbrev a2__heldDatumS_sLa (x : Datum) (k : Nat) := (0 ≤ (↑k : Int) ∧ (List.map datumC (Datum.items x))[Int.toNat (↑k : Int)]? = some (datumF (List.getD (Datum.items x) k default)))
abbrev a3__heldDatumS_sLa (x : Datum) (n : Int) (k : Nat) := (li (n + (a1__heldDatumS_sLa x k) + 1 + 1 + 1 + (↑(sumBy cD (Datum.items (List.getD (Datum.items x) k default))) :
 Int)))
theorem run_c_heldDatumS_sLa (x : Datum) (n : Int) (k : Nat) : aexec Try.prog (loopAt Try.f147 0) (Lc_heldDatumS_sLa x n k) [Orc.br [Orc.cells (datumF (List.getD (Datum.items x) k
 default)), Orc.br [Orc.ghost (Ghost.sel [] [4]), Orc.out 1] [Orc.cells (datumF (List.getD (Datum.items x) k default)), Orc.br [Orc.ghost (Ghost.sel [] [4]), Orc.out 1] [Orc.draw
 [], Orc.cells (datumF (List.getD (Datum.items x) k default)), Orc.call [Mode.rd] [] (AV.sv (ls (mText (n + (a1__heldDatumS_sLa x k) + 1 + 1)))), Orc.br [Orc.ghost (Ghost.sel []
 [4]), Orc.out 1] [Orc.cells (datumF (List.getD (Datum.items x) k default)), Orc.call [Mode.rd, Mode.rd] [] (AV.sv (a3__heldDatumS_sLa x n k)), Orc.br [Orc.ghost (Ghost.sel []
 [4]), Orc.out 1] [Orc.ghost (Ghost.sel [] [0, 1, 5]), Orc.goto (List.length (Datum.items x) - (k + 1)) (Lc_heldDatumS_sLa x n (k + 1))]]]]] [Orc.ghost (Ghost.sel [] [1]), Orc.out
 0]] (loopK (Ic_heldDatumS_sLa x n) (Yc_heldDatumS_sLa x n) (List.length (Datum.items x) - k)) = (List.length (List.map datumC (Datum.items x)) ≤ 9223372036854775807 → (decide ((↑k
 : Int) < (↑(List.length (List.map datumC (Datum.items x))) : Int)) = true → (a2__heldDatumS_sLa x k) ∧ (decide (Datum.kind (List.getD (Datum.items x) k default) ≠ n +
 (a1__heldDatumS_sLa x k)) = true → False ∧ W1c_heldDatumS_sLa x n (li (-1 : Int)) = W1c_heldDatumS_sLa x n (li (-1 : Int))) ∧ (decide (Datum.kind (List.getD (Datum.items x) k
 default) ≠ n + (a1__heldDatumS_sLa x k)) = false → rng IntKind.i64 (n + (a1__heldDatumS_sLa x k) + 1) ∧ (a2__heldDatumS_sLa x k) ∧ (decide (Datum.number (List.getD (Datum.items x)
 k default) ≠ n + (a1__heldDatumS_sLa x k) + 1) = true → False ∧ W1c_heldDatumS_sLa x n (li (-1 : Int)) = W1c_heldDatumS_sLa x n (li (-1 : Int))) ∧ (decide (Datum.number (List.getD
 (Datum.items x) k default) ≠ n + (a1__heldDatumS_sLa x k) + 1) = false → rng IntKind.i64 (n + (a1__heldDatumS_sLa x k) + 1 + 1) ∧ (a2__heldDatumS_sLa x k) ∧ P_c_markText (n +
 (a1__heldDatumS_sLa x k) + 1 + 1) ∧ (decide (Array.toList (ByteArray.data (Datum.text (List.getD (Datum.items x) k default))) ≠ Array.toList (ByteArray.data (mText (n +
 (a1__heldDatumS_sLa x k) + 1 + 1)))) = true → False ∧ W1c_heldDatumS_sLa x n (li (-1 : Int)) = W1c_heldDatumS_sLa x n (li (-1 : Int))) ∧ (decide (Array.toList (ByteArray.data
 (Datum.text (List.getD (Datum.items x) k default))) ≠ Array.toList (ByteArray.data (mText (n + (a1__heldDatumS_sLa x k) + 1 + 1)))) = false → rng IntKind.i64 (n +
 (a1__heldDatumS_sLa x k) + 1 + 1 + 1) ∧ (a2__heldDatumS_sLa x k) ∧ CallOK Try.prog 147 [] [ll (List.map datumC (Datum.items (List.getD (Datum.items x) k default))), li (n +
 (a1__heldDatumS_sLa x k) + 1 + 1 + 1)] [] (AV.sv (a3__heldDatumS_sLa x n k)) ∧ (decide (n + (a1__heldDatumS_sLa x k) + 1 + 1 + 1 + (↑(sumBy cD (Datum.items (List.getD (Datum.items
 x) k default))) : Int) < 0) = true → False ∧ W1c_heldDatumS_sLa x n (li (-1 : Int)) = W1c_heldDatumS_sLa x n (li (-1 : Int))) ∧ (decide (n + (a1__heldDatumS_sLa x k) + 1 + 1 + 1 +
 (↑(sumBy cD (Datum.items (List.getD (Datum.items x) k default))) : Int) < 0) = false → rng IntKind.i64 ((↑k : Int) + 1) ∧ List.length (Datum.items x) - (k + 1) < List.length
 (Datum.items x) - k ∧ Tc_heldDatumS_sLa x n (li ((↑k : Int) + 1)) (a3__heldDatumS_sLa x n k) = Lc_heldDatumS_sLa x n (k + 1) ∧ Ic_heldDatumS_sLa x n (List.length (Datum.items x) -
 (k + 1)) (Lc_heldDatumS_sLa x n (k + 1))))))) ∧ (decide ((↑k : Int) < (↑(List.length (List.map datumC (Datum.items x))) : Int)) = false → True ∧ W0c_heldDatumS_sLa x n (li (n +
 (a1__heldDatumS_sLa x k))) = W0c_heldDatumS_sLa x n (li (n + (↑(sumBy cD (Datum.items x)) : Int))))) := by kernel_rfl
theorem Sc_heldDatumS_sLa (x : Datum) (n : Int) (h0 : 0 ≤ n) (h : n + (↑(sumBy cD (Datum.items x)) : Int) ≤ 2147483647) (hm : seqM mkD cD (Datum.items x) n = Datum.items x) (ih : ∀
 (z : Datum), z ∈ Datum.items x → ∀ (n : Int), 0 ≤ n → n + (↑(sumBy cD (Datum.items z)) : Int) ≤ 2147483647 → seqM mkD cD (Datum.items z) n = Datum.items z → P_c_heldDatumS z n)  :
 LoopSem Try.prog (loopAt Try.f147 0) (Ic_heldDatumS_sLa x n) (Yc_heldDatumS_sLa x n) := by
  refine LoopSem.ofHead wide fun k h => ⟨_, _, run_c_heldDatumS_sLa x n k, ?_⟩
  try delta a1__heldDatumS_sLa a2__heldDatumS_sLa a3__heldDatumS_sLa
  have g0 := sumBy_takeLe cD x.items (k + 1)
  have g1 := fun hk : k < x.items.length => mkD_fix (seqM_get hm hk)
  with_reducible repeat' (first | apply And.intro | exact flatI | exact flatS | exact rowLens | exact ih | (intro; skip) | apply obsN | apply obsC | apply obA | apply obM | apply obB | apply svA | apply tupA | apply lcA | apply lcS | apply svC | apply liC | apply lbC | apply lsC | apply vIc | apply vBc | apply vSc | apply vLc | apply mapC | apply Hc_heldDatumS_sLa | apply Ec_heldDatumS_sLa | apply EW0c_heldDatumS_sLa | apply EW1c_heldDatumS_sLa | apply c_markText | apply ih)
  all_goals (try simp only [std, stdM] at *)
  all_goals (try (first | with_reducible rfl | omega | assumption | (refine (decide_eq_true ?_).symm; assumption) | (refine (decide_eq_false ?_).symm; assumption) | (refine rowGet ?_; (first | omega | (simp only [std, stdM]; omega) | grind)) | (refine getC ?_ rfl; (first | omega | (simp only [std, stdM]; omega) | grind)) | (refine fill_step ?_ ?_; (first | omega | (simp only [std, stdM]; omega) | grind); (first | rfl | exact (Row.eq _).trans rfl)) | (refine fill_init ?_; (first | rfl | exact (Row.eq _).trans rfl)) | (refine set_row ?_; (simp only [List.length_map, List.length_set, mkTo_len]; omega)) | (refine mkToRow ?_; (first | omega | (simp only [std, stdM]; omega) | grind)) | (refine mkTo_row ?_ rfl; (first | omega | (simp only [std, stdM]; omega) | grind)) | (refine mkTo_step ?_ ?_; (first | omega | (simp only [std, stdM]; omega) | grind); (first | grind [sumBy_step, getD_mem', cD_eq, snocI, snocS, rowSnoc])) | grind [sumBy_step, getD_mem', cD_eq, snocI, snocS, rowSnoc]))
theorem run_c_heldDatumS_s (x : Datum) (n : Int) : aexec Try.prog (Option.getD (Func.body Try.f147) Code.skip) (entry [] [ll (List.map datumC (Datum.items x)), li n] 50) [Orc.ghost
 (Ghost.sel [] [0, 1, 5]), Orc.loop (List.length (Datum.items x) - 0) (Lc_heldDatumS_sLa x n 0) (Ic_heldDatumS_sLa x n) [(True, AEx.exit 0, W0c_heldDatumS_sLa x n (li (n + (↑(sumBy
 cD (Datum.items x)) : Int))), [Orc.fin []]), (False, AEx.ret, W1c_heldDatumS_sLa x n (li (-1 : Int)), [Orc.fin []])]] (finK Try.prog [ResultVar.tmp 4] [] (AV.sv (li (n + (↑(sumBy
 cD (Datum.items x)) : Int))))) = (Tc_heldDatumS_sLa x n (li 0) (li n) = Lc_heldDatumS_sLa x n 0 ∧ Ic_heldDatumS_sLa x n (List.length (Datum.items x) - 0) (Lc_heldDatumS_sLa x n 0)
 ∧ LoopSem Try.prog (loopAt Try.f147 0) (Ic_heldDatumS_sLa x n) (Yc_heldDatumS_sLa x n) ∧ (True → ObsEq [] [] ∧ AV.sv (li (n + (↑(sumBy cD (Datum.items x)) : Int))) = AV.sv (li (n
 + (↑(sumBy cD (Datum.items x)) : Int)))) ∧ (False → ObsEq [] [] ∧ AV.sv (li (-1 : Int)) = AV.sv (li (n + (↑(sumBy cD (Datum.items x)) : Int)))) ∧ True) := by kernel_rfl
theorem c_heldDatumS_s (x : Datum) (n : Int) (h0 : 0 ≤ n) (h : n + sumBy cD x.items ≤ 2147483647) (hm : seqM mkD cD x.items n = x.items) (ih : ∀ z ∈ x.items, ∀ (n : Int) (h0 : 0 ≤
 n) (h : n + sumBy cD z.items ≤ 2147483647) (hm : seqM mkD cD z.items n = z.items), P_c_heldDatumS z n)  : P_c_heldDatumS x n := by
  refine CallOK.ofRun wide (run_c_heldDatumS_s x n) Try.call147 Try.func147 rfl rfl rfl ?_
  have gl := cD_len x.items
  with_reducible repeat' (first | apply And.intro | exact flatI | exact flatS | exact rowLens | exact ih | (intro; skip) | apply obsN | apply obsC | apply obA | apply obM | apply obB | apply svA | apply tupA | apply lcA | apply lcS | apply svC | apply liC | apply lbC | apply lsC | apply vIc | apply vBc | apply vSc | apply vLc | apply mapC | apply Hc_heldDatumS_sLa | apply Ec_heldDatumS_sLa | apply Sc_heldDatumS_sLa | apply EW0c_heldDatumS_sLa | apply EW1c_heldDatumS_sLa | apply c_markText)
  all_goals (try simp only [std, stdM] at *)
  all_goals (try (first | with_reducible rfl | omega | assumption | (refine (decide_eq_true ?_).symm; assumption) | (refine (decide_eq_false ?_).symm; assumption) | (refine rowGet ?_; (first | omega | (simp only [std, stdM]; omega) | grind)) | (refine getC ?_ rfl; (first | omega | (simp only [std, stdM]; omega) | grind)) | (refine fill_step ?_ ?_; (first | omega | (simp only [std, stdM]; omega) | grind); (first | rfl | exact (Row.eq _).trans rfl)) | (refine fill_init ?_; (first | rfl | exact (Row.eq _).trans rfl)) | (refine set_row ?_; (simp only [List.length_map, List.length_set, mkTo_len]; omega)) | (refine mkToRow ?_; (first | omega | (simp only [std, stdM]; omega) | grind)) | (refine mkTo_row ?_ rfl; (first | omega | (simp only [std, stdM]; omega) | grind)) | (refine mkTo_step ?_ ?_; (first | omega | (simp only [std, stdM]; omega) | grind); (first | grind [mkTo_all, snocI, snocS, rowSnoc])) | grind [mkTo_all, snocI, snocS, rowSnoc]))
theorem c_heldDatumS (x : Datum) : ∀ (n : Int) (h0 : 0 ≤ n) (h : n + sumBy cD x.items ≤ 2147483647) (hm : seqM mkD cD x.items n = x.items), P_c_heldDatumS x n := Datum.ind (P := fun x => ∀ (n : Int) (h0 : 0 ≤ n) (h : n + sumBy cD x.items ≤ 2147483647) (hm : seqM mkD cD x.items n = x.items), P_c_heldDatumS x n) (fun x ih n h0 h hm => c_heldDatumS_s x n h0 h hm ih) x
theorem c_heldDatumSL (L : List Datum) (n : Int) (h0 : 0 ≤ n) (h : n + sumBy cD L ≤ 2147483647) (hm : seqM mkD cD L n = L) : P_c_heldDatumS { (default : Datum) with items := L } n := c_heldDatumS { (default : Datum) with items := L } n h0 h hm
abbrev P_c_heldDatum (x : Datum) (n : Int) : Prop := CallOK Try.prog 209 [] [.agg [vI x.kind, vI x.number, vS x.text, vL (x.items.map datumC)], li n] [] (.sv (li (n + sumBy cD x.items)))
theorem run_c_heldDatum (x : Datum) (n : Int) : aexec Try.prog (Option.getD (Func.body Try.f209) Code.skip) (entry [] [SV.agg [vI (Datum.kind x), vI (Datum.number x), vS
 (Datum.text x), vL (List.map datumC (Datum.items x))], li n] 12) [Orc.call [Mode.rd, Mode.rd] [] (AV.sv (li (n + (↑(sumBy cD (Datum.items x)) : Int)))), Orc.br [Orc.fin []]
 [Orc.fin []]] (finK Try.prog [ResultVar.tmp 4] [] (AV.sv (li (n + (↑(sumBy cD (Datum.items x)) : Int))))) = (CallOK Try.prog 147 [] [ll (List.map datumC (Datum.items x)), li n] []
 (AV.sv (li (n + (↑(sumBy cD (Datum.items x)) : Int)))) ∧ (decide (n + (↑(sumBy cD (Datum.items x)) : Int) < 0) = true → ObsEq [] [] ∧ AV.sv (li (-1 : Int)) = AV.sv (li (n +
 (↑(sumBy cD (Datum.items x)) : Int)))) ∧ (decide (n + (↑(sumBy cD (Datum.items x)) : Int) < 0) = false → ObsEq [] [] ∧ AV.sv (li (n + (↑(sumBy cD (Datum.items x)) : Int))) = AV.sv
 (li (n + (↑(sumBy cD (Datum.items x)) : Int))))) := by kernel_rfl
theorem c_heldDatum (x : Datum) (n : Int) (h0 : 0 ≤ n) (h : n + (sumBy cD x.items : Nat) ≤ 2147483647) (hm0 : seqM mkD cD x.items (n) = x.items)  : P_c_heldDatum x n := by
  refine CallOK.ofRun wide (run_c_heldDatum x n) Try.call209 Try.func209 rfl rfl rfl ?_
  with_reducible repeat' (first | apply And.intro | exact flatI | exact flatS | exact rowLens | (intro; skip) | apply obsN | apply obsC | apply obA | apply obM | apply obB | apply svA | apply tupA | apply lcA | apply lcS | apply svC | apply liC | apply lbC | apply lsC | apply vIc | apply vBc | apply vSc | apply vLc | apply mapC | apply c_heldDatumS | apply c_heldDatumSL)
  all_goals (try simp only [std, stdM] at *)
  all_goals (try (first | with_reducible rfl | omega | assumption | (refine (decide_eq_true ?_).symm; assumption) | (refine (decide_eq_false ?_).symm; assumption) | (refine rowGet ?_; (first | omega | (simp only [std, stdM]; omega) | grind)) | (refine getC ?_ rfl; (first | omega | (simp only [std, stdM]; omega) | grind)) | (refine fill_step ?_ ?_; (first | omega | (simp only [std, stdM]; omega) | grind); (first | rfl | exact (Row.eq _).trans rfl)) | (refine fill_init ?_; (first | rfl | exact (Row.eq _).trans rfl)) | (refine set_row ?_; (simp only [List.length_map, List.length_set, mkTo_len]; omega)) | (refine mkToRow ?_; (first | omega | (simp only [std, stdM]; omega) | grind)) | (refine mkTo_row ?_ rfl; (first | omega | (simp only [std, stdM]; omega) | grind)) | (refine mkTo_step ?_ ?_; (first | omega | (simp only [std, stdM]; omega) | grind); (first | grind [snocI, snocS, rowSnoc])) | grind [snocI, snocS, rowSnoc]))
abbrev P_c_heldCoreS (x : Core) (n : Int) : Prop := CallOK Try.prog 210 [] [ll (x.kids.map coreC), li n] [] (.sv (li (n + sumBy cC x.kids)))
def Tc_heldCoreS_sLa (x : Core) (n : Int) (x0 : SV) (x1 : SV) : St := St.mk (regsOf 90 [(0, AV.sv (ll (List.map coreC (Core.kids x)))), (1, AV.sv x1), (5, AV.sv x0)]) [] 0 
def Lc_heldCoreS_sLa (x : Core) (n : Int) (k : Nat) : St := Tc_heldCoreS_sLa x n (li (↑k : Int)) (li (n + (↑(sumBy cC (List.take k (Core.kids x))) : Int))) 
def Ic_heldCoreS_sLa (x : Core) (n : Int) : Nat → St → Prop := Head (Lc_heldCoreS_sLa x n) (fun k => k ≤ List.length (Core.kids x) ∧ List.length (Core.kids x) ≤
 9223372036854775807) fun k => List.length (Core.kids x) - k 
def W0c_heldCoreS_sLa (x : Core) (n : Int) (x0 : SV) : St := St.mk (regsOf 90 [(1, AV.sv x0)]) [] 0 
def W1c_heldCoreS_sLa (x : Core) (n : Int) (x0 : SV) : St := St.mk (regsOf 90 [(4, AV.sv x0)]) [] 0 
def Yc_heldCoreS_sLa (x : Core) (n : Int) : List (Prop × AEx × St) := [(True, AEx.exit 0, W0c_heldCoreS_sLa x n (li (n + (↑(sumBy cC (Core.kids x)) : Int)))), (False, AEx.ret,
 W1c_heldCoreS_sLa x n (li (-1 : Int)))]
theorem Hc_heldCoreS_sLa {x : Core} {n : Int} {k : Nat} {m : Nat} (h : (fun k => k ≤ List.length (Core.kids x) ∧ List.length (Core.kids x) ≤ 9223372036854775807) k) (hm : (fun k =>
 List.length (Core.kids x) - k) k = m) : Ic_heldCoreS_sLa x n m (Lc_heldCoreS_sLa x n k) := hm ▸ Head.mk h
theorem Ec_heldCoreS_sLa {x : Core} {n : Int} {k : Nat} {x0 : SV} {x1 : SV} (h0 : x0 = (li (↑k : Int))) (h1 : x1 = (li (n + (↑(sumBy cC (List.take k (Core.kids x))) : Int)))) :
 Tc_heldCoreS_sLa x n x0 x1 = Lc_heldCoreS_sLa x n k := by
  rw [h0, h1]
  rfl
theorem EW0c_heldCoreS_sLa {x : Core} {n : Int} {x0 y0 : SV} (h0 : x0 = y0) : W0c_heldCoreS_sLa x n x0 = W0c_heldCoreS_sLa x n y0 := by rw [h0]
theorem EW1c_heldCoreS_sLa {x : Core} {n : Int} {x0 y0 : SV} (h0 : x0 = y0) : W1c_heldCoreS_sLa x n x0 = W1c_heldCoreS_sLa x n y0 := by rw [h0]
abbrev a1__heldCoreS_sLa (x : Core) (k : Nat) := (↑(List.length (Core.params (List.getD (Core.kids x) k default))) : Int)
abbrev a2__heldCoreS_sLa (x : Core) (k : Nat) := (↑(sumBy cC (List.take k (Core.kids x))) : Int)
abbrev a10__heldCoreS_sLa (x : Core) (k : Nat) := (coreF (List.getD (Core.kids x) k default))
abbrev a3__heldCoreS_sLa (x : Core) (k : Nat) := (0 ≤ (↑k : Int) ∧ (List.map coreC (Core.kids x))[Int.toNat (↑k : Int)]? = some (a10__heldCoreS_sLa x k))
abbrev a9__heldCoreS_sLa (x : Core) (k : Nat) := (Core.datum (List.getD (Core.kids x) k default))
abbrev a4__heldCoreS_sLa (x : Core) (k : Nat) := (↑(sumBy cD (Datum.items (a9__heldCoreS_sLa x k))) : Int)
abbrev a5__heldCoreS_sLa (x : Core) (n : Int) (k : Nat) := (li (n + (a2__heldCoreS_sLa x k) + 1 + 1 + (a1__heldCoreS_sLa x k) + 1 + 1 + 1 + (a4__heldCoreS_sLa x k) + (↑(sumBy cC
 (Core.kids (List.getD (Core.kids x) k default))) : Int)))
abbrev a6__heldCoreS_sLa (x : Core) (n : Int) (k : Nat) := (n + (a2__heldCoreS_sLa x k) + 1 + 1 + (a1__heldCoreS_sLa x k) + 1 + 1)
abbrev a7__heldCoreS_sLa  := [Orc.ghost (Ghost.sel [] [4]), Orc.out 1]
abbrev a8__heldCoreS_sLa (x : Core) (n : Int) (k : Nat) := (n + (a2__heldCoreS_sLa x k) + 1 + 1 + (a1__heldCoreS_sLa x k) + 1 + 1 + 1 + (a4__heldCoreS_sLa x k))
theorem run_c_heldCoreS_sLa (x : Core) (n : Int) (k : Nat) : aexec Try.prog (loopAt Try.f210 0) (Lc_heldCoreS_sLa x n k) [Orc.br [Orc.cells (a10__heldCoreS_sLa x k), Orc.br
 a7__heldCoreS_sLa [Orc.cells (a10__heldCoreS_sLa x k), Orc.br a7__heldCoreS_sLa [Orc.cells (a10__heldCoreS_sLa x k), Orc.call [Mode.rd, Mode.rd] [] (AV.sv (li (n +
 (a2__heldCoreS_sLa x k) + 1 + 1 + (a1__heldCoreS_sLa x k)))), Orc.br a7__heldCoreS_sLa [Orc.cells (a10__heldCoreS_sLa x k), Orc.br a7__heldCoreS_sLa [Orc.cells (a10__heldCoreS_sLa
 x k), Orc.br a7__heldCoreS_sLa [Orc.draw [], Orc.cells (a10__heldCoreS_sLa x k), Orc.call [Mode.rd] [] (AV.sv (ls (mText (a6__heldCoreS_sLa x n k)))), Orc.br a7__heldCoreS_sLa
 [Orc.cells (a10__heldCoreS_sLa x k), Orc.call [Mode.rd, Mode.rd] [] (AV.sv (li (a8__heldCoreS_sLa x n k))), Orc.br a7__heldCoreS_sLa [Orc.cells (a10__heldCoreS_sLa x k), Orc.call
 [Mode.rd, Mode.rd] [] (AV.sv (a5__heldCoreS_sLa x n k)), Orc.br a7__heldCoreS_sLa [Orc.ghost (Ghost.sel [] [0, 1, 5]), Orc.goto (List.length (Core.kids x) - (k + 1))
 (Lc_heldCoreS_sLa x n (k + 1))]]]]]]]]] [Orc.ghost (Ghost.sel [] [1]), Orc.out 0]] (loopK (Ic_heldCoreS_sLa x n) (Yc_heldCoreS_sLa x n) (List.length (Core.kids x) - k)) =
 (List.length (List.map coreC (Core.kids x)) ≤ 9223372036854775807 → (decide ((↑k : Int) < (↑(List.length (List.map coreC (Core.kids x))) : Int)) = true → (a3__heldCoreS_sLa x k) ∧
 (decide (Core.kind (List.getD (Core.kids x) k default) ≠ n + (a2__heldCoreS_sLa x k)) = true → False ∧ W1c_heldCoreS_sLa x n (li (-1 : Int)) = W1c_heldCoreS_sLa x n (li (-1 :
 Int))) ∧ (decide (Core.kind (List.getD (Core.kids x) k default) ≠ n + (a2__heldCoreS_sLa x k)) = false → rng IntKind.i64 (n + (a2__heldCoreS_sLa x k) + 1) ∧ (a3__heldCoreS_sLa x
 k) ∧ (decide (Core.number (List.getD (Core.kids x) k default) ≠ n + (a2__heldCoreS_sLa x k) + 1) = true → False ∧ W1c_heldCoreS_sLa x n (li (-1 : Int)) = W1c_heldCoreS_sLa x n (li
 (-1 : Int))) ∧ (decide (Core.number (List.getD (Core.kids x) k default) ≠ n + (a2__heldCoreS_sLa x k) + 1) = false → rng IntKind.i64 (n + (a2__heldCoreS_sLa x k) + 1 + 1) ∧
 (a3__heldCoreS_sLa x k) ∧ P_c_heldIntS (Core.params (List.getD (Core.kids x) k default)) (n + (a2__heldCoreS_sLa x k) + 1 + 1) ∧ (decide (n + (a2__heldCoreS_sLa x k) + 1 + 1 +
 (a1__heldCoreS_sLa x k) < 0) = true → False ∧ W1c_heldCoreS_sLa x n (li (-1 : Int)) = W1c_heldCoreS_sLa x n (li (-1 : Int))) ∧ (decide (n + (a2__heldCoreS_sLa x k) + 1 + 1 +
 (a1__heldCoreS_sLa x k) < 0) = false → (a3__heldCoreS_sLa x k) ∧ (decide (Datum.kind (a9__heldCoreS_sLa x k) ≠ n + (a2__heldCoreS_sLa x k) + 1 + 1 + (a1__heldCoreS_sLa x k)) =
 true → False ∧ W1c_heldCoreS_sLa x n (li (-1 : Int)) = W1c_heldCoreS_sLa x n (li (-1 : Int))) ∧ (decide (Datum.kind (a9__heldCoreS_sLa x k) ≠ n + (a2__heldCoreS_sLa x k) + 1 + 1 +
 (a1__heldCoreS_sLa x k)) = false → rng IntKind.i64 (n + (a2__heldCoreS_sLa x k) + 1 + 1 + (a1__heldCoreS_sLa x k) + 1) ∧ (a3__heldCoreS_sLa x k) ∧ (decide (Datum.number
 (a9__heldCoreS_sLa x k) ≠ n + (a2__heldCoreS_sLa x k) + 1 + 1 + (a1__heldCoreS_sLa x k) + 1) = true → False ∧ W1c_heldCoreS_sLa x n (li (-1 : Int)) = W1c_heldCoreS_sLa x n (li (-1
 : Int))) ∧ (decide (Datum.number (a9__heldCoreS_sLa x k) ≠ n + (a2__heldCoreS_sLa x k) + 1 + 1 + (a1__heldCoreS_sLa x k) + 1) = false → rng IntKind.i64 (a6__heldCoreS_sLa x n k) ∧
 (a3__heldCoreS_sLa x k) ∧ P_c_markText (a6__heldCoreS_sLa x n k) ∧ (decide (Array.toList (ByteArray.data (Datum.text (a9__heldCoreS_sLa x k))) ≠ Array.toList (ByteArray.data
 (mText (a6__heldCoreS_sLa x n k)))) = true → False ∧ W1c_heldCoreS_sLa x n (li (-1 : Int)) = W1c_heldCoreS_sLa x n (li (-1 : Int))) ∧ (decide (Array.toList (ByteArray.data
 (Datum.text (a9__heldCoreS_sLa x k))) ≠ Array.toList (ByteArray.data (mText (a6__heldCoreS_sLa x n k)))) = false → rng IntKind.i64 (n + (a2__heldCoreS_sLa x k) + 1 + 1 +
 (a1__heldCoreS_sLa x k) + 1 + 1 + 1) ∧ (a3__heldCoreS_sLa x k) ∧ CallOK Try.prog 147 [] [ll (List.map datumC (Datum.items (a9__heldCoreS_sLa x k))), li (n + (a2__heldCoreS_sLa x
 k) + 1 + 1 + (a1__heldCoreS_sLa x k) + 1 + 1 + 1)] [] (AV.sv (li (a8__heldCoreS_sLa x n k))) ∧ (decide (n + (a2__heldCoreS_sLa x k) + 1 + 1 + (a1__heldCoreS_sLa x k) + 1 + 1 + 1 +
 (a4__heldCoreS_sLa x k) < 0) = true → False ∧ W1c_heldCoreS_sLa x n (li (-1 : Int)) = W1c_heldCoreS_sLa x n (li (-1 : Int))) ∧ (decide (n + (a2__heldCoreS_sLa x k) + 1 + 1 +
 (a1__heldCoreS_sLa x k) + 1 + 1 + 1 + (a4__heldCoreS_sLa x k) < 0) = false → (a3__heldCoreS_sLa x k) ∧ CallOK Try.prog 210 [] [ll (List.map coreC (Core.kids (List.getD (Core.kids
 x) k default))), li (a8__heldCoreS_sLa x n k)] [] (AV.sv (a5__heldCoreS_sLa x n k)) ∧ (decide (n + (a2__heldCoreS_sLa x k) + 1 + 1 + (a1__heldCoreS_sLa x k) + 1 + 1 + 1 +
 (a4__heldCoreS_sLa x k) + (↑(sumBy cC (Core.kids (List.getD (Core.kids x) k default))) : Int) < 0) = true → False ∧ W1c_heldCoreS_sLa x n (li (-1 : Int)) = W1c_heldCoreS_sLa x n
 (li (-1 : Int))) ∧ (decide (n + (a2__heldCoreS_sLa x k) + 1 + 1 + (a1__heldCoreS_sLa x k) + 1 + 1 + 1 + (a4__heldCoreS_sLa x k) + (↑(sumBy cC (Core.kids (List.getD (Core.kids x) k
 default))) : Int) < 0) = false → rng IntKind.i64 ((↑k : Int) + 1) ∧ List.length (Core.kids x) - (k + 1) < List.length (Core.kids x) - k ∧ Tc_heldCoreS_sLa x n (li ((↑k : Int) +
 1)) (a5__heldCoreS_sLa x n k) = Lc_heldCoreS_sLa x n (k + 1) ∧ Ic_heldCoreS_sLa x n (List.length (Core.kids x) - (k + 1)) (Lc_heldCoreS_sLa x n (k + 1))))))))))) ∧ (decide ((↑k :
 Int) < (↑(List.length (List.map coreC (Core.kids x))) : Int)) = false → True ∧ W0c_heldCoreS_sLa x n (li (n + (a2__heldCoreS_sLa x k))) = W0c_heldCoreS_sLa x n (li (n + (↑(sumBy
 cC (Core.kids x)) : Int))))) := by kernel_rfl
theorem Sc_heldCoreS_sLa (x : Core) (n : Int) (h0 : 0 ≤ n) (h : n + (↑(sumBy cC (Core.kids x)) : Int) ≤ 2147483647) (hm : seqM mkC cC (Core.kids x) n = Core.kids x) (ih : ∀ (z :
 Core), z ∈ Core.kids x → ∀ (n : Int), 0 ≤ n → n + (↑(sumBy cC (Core.kids z)) : Int) ≤ 2147483647 → seqM mkC cC (Core.kids z) n = Core.kids z → P_c_heldCoreS z n)  : LoopSem
 Try.prog (loopAt Try.f210 0) (Ic_heldCoreS_sLa x n) (Yc_heldCoreS_sLa x n) := by
  refine LoopSem.ofHead wide fun k h => ⟨_, _, run_c_heldCoreS_sLa x n k, ?_⟩
  try delta a1__heldCoreS_sLa a2__heldCoreS_sLa a10__heldCoreS_sLa a3__heldCoreS_sLa a9__heldCoreS_sLa a4__heldCoreS_sLa a5__heldCoreS_sLa a6__heldCoreS_sLa a7__heldCoreS_sLa a8__heldCoreS_sLa
  have g0 := sumBy_takeLe cC x.kids (k + 1)
  have g1 := fun hk : k < x.kids.length => mkC_fix (seqM_get hm hk)
  with_reducible repeat' (first | apply And.intro | exact flatI | exact flatS | exact rowLens | exact ih | (intro; skip) | apply obsN | apply obsC | apply obA | apply obM | apply obB | apply svA | apply tupA | apply lcA | apply lcS | apply svC | apply liC | apply lbC | apply lsC | apply vIc | apply vBc | apply vSc | apply vLc | apply mapC | apply Hc_heldCoreS_sLa | apply Ec_heldCoreS_sLa | apply EW0c_heldCoreS_sLa | apply EW1c_heldCoreS_sLa | apply c_heldIntS | apply c_markText | apply c_heldDatumS | apply c_heldDatumSL | apply ih)
  all_goals (try simp only [std, stdM] at *)
  all_goals (try (first | with_reducible rfl | omega | assumption | (refine (decide_eq_true ?_).symm; assumption) | (refine (decide_eq_false ?_).symm; assumption) | (refine rowGet ?_; (first | omega | (simp only [std, stdM]; omega) | grind)) | (refine getC ?_ rfl; (first | omega | (simp only [std, stdM]; omega) | grind)) | (refine fill_step ?_ ?_; (first | omega | (simp only [std, stdM]; omega) | grind); (first | rfl | exact (Row.eq _).trans rfl)) | (refine fill_init ?_; (first | rfl | exact (Row.eq _).trans rfl)) | (refine set_row ?_; (simp only [List.length_map, List.length_set, mkTo_len]; omega)) | (refine mkToRow ?_; (first | omega | (simp only [std, stdM]; omega) | grind)) | (refine mkTo_row ?_ rfl; (first | omega | (simp only [std, stdM]; omega) | grind)) | (refine mkTo_step ?_ ?_; (first | omega | (simp only [std, stdM]; omega) | grind); (first | grind [sumBy_step, getD_mem', cC_eq, snocI, snocS, rowSnoc])) | grind [sumBy_step, getD_mem', cC_eq, snocI, snocS, rowSnoc]))
theorem run_c_heldCoreS_s (x : Core) (n : Int) : aexec Try.prog (Option.getD (Func.body Try.f210) Code.skip) (entry [] [ll (List.map coreC (Core.kids x)), li n] 90) [Orc.ghost
 (Ghost.sel [] [0, 1, 5]), Orc.loop (List.length (Core.kids x) - 0) (Lc_heldCoreS_sLa x n 0) (Ic_heldCoreS_sLa x n) [(True, AEx.exit 0, W0c_heldCoreS_sLa x n (li (n + (↑(sumBy cC
 (Core.kids x)) : Int))), [Orc.fin []]), (False, AEx.ret, W1c_heldCoreS_sLa x n (li (-1 : Int)), [Orc.fin []])]] (finK Try.prog [ResultVar.tmp 4] [] (AV.sv (li (n + (↑(sumBy cC
 (Core.kids x)) : Int))))) = (Tc_heldCoreS_sLa x n (li 0) (li n) = Lc_heldCoreS_sLa x n 0 ∧ Ic_heldCoreS_sLa x n (List.length (Core.kids x) - 0) (Lc_heldCoreS_sLa x n 0) ∧ LoopSem
 Try.prog (loopAt Try.f210 0) (Ic_heldCoreS_sLa x n) (Yc_heldCoreS_sLa x n) ∧ (True → ObsEq [] [] ∧ AV.sv (li (n + (↑(sumBy cC (Core.kids x)) : Int))) = AV.sv (li (n + (↑(sumBy cC
 (Core.kids x)) : Int)))) ∧ (False → ObsEq [] [] ∧ AV.sv (li (-1 : Int)) = AV.sv (li (n + (↑(sumBy cC (Core.kids x)) : Int)))) ∧ True) := by kernel_rfl
theorem c_heldCoreS_s (x : Core) (n : Int) (h0 : 0 ≤ n) (h : n + sumBy cC x.kids ≤ 2147483647) (hm : seqM mkC cC x.kids n = x.kids) (ih : ∀ z ∈ x.kids, ∀ (n : Int) (h0 : 0 ≤ n) (h
 : n + sumBy cC z.kids ≤ 2147483647) (hm : seqM mkC cC z.kids n = z.kids), P_c_heldCoreS z n)  : P_c_heldCoreS x n := by
  refine CallOK.ofRun wide (run_c_heldCoreS_s x n) Try.call210 Try.func210 rfl rfl rfl ?_
  have gl := cC_len x.kids
  with_reducible repeat' (first | apply And.intro | exact flatI | exact flatS | exact rowLens | exact ih | (intro; skip) | apply obsN | apply obsC | apply obA | apply obM | apply obB | apply svA | apply tupA | apply lcA | apply lcS | apply svC | apply liC | apply lbC | apply lsC | apply vIc | apply vBc | apply vSc | apply vLc | apply mapC | apply Hc_heldCoreS_sLa | apply Ec_heldCoreS_sLa | apply Sc_heldCoreS_sLa | apply EW0c_heldCoreS_sLa | apply EW1c_heldCoreS_sLa | apply c_heldIntS | apply c_markText | apply c_heldDatumS | apply c_heldDatumSL)
  all_goals (try simp only [std, stdM] at *)
  all_goals (try (first | with_reducible rfl | omega | assumption | (refine (decide_eq_true ?_).symm; assumption) | (refine (decide_eq_false ?_).symm; assumption) | (refine rowGet ?_; (first | omega | (simp only [std, stdM]; omega) | grind)) | (refine getC ?_ rfl; (first | omega | (simp only [std, stdM]; omega) | grind)) | (refine fill_step ?_ ?_; (first | omega | (simp only [std, stdM]; omega) | grind); (first | rfl | exact (Row.eq _).trans rfl)) | (refine fill_init ?_; (first | rfl | exact (Row.eq _).trans rfl)) | (refine set_row ?_; (simp only [List.length_map, List.length_set, mkTo_len]; omega)) | (refine mkToRow ?_; (first | omega | (simp only [std, stdM]; omega) | grind)) | (refine mkTo_row ?_ rfl; (first | omega | (simp only [std, stdM]; omega) | grind)) | (refine mkTo_step ?_ ?_; (first | omega | (simp only [std, stdM]; omega) | grind); (first | grind [mkTo_all, snocI, snocS, rowSnoc])) | grind [mkTo_all, snocI, snocS, rowSnoc]))
theorem c_heldCoreS (x : Core) : ∀ (n : Int) (h0 : 0 ≤ n) (h : n + sumBy cC x.kids ≤ 2147483647) (hm : seqM mkC cC x.kids n = x.kids), P_c_heldCoreS x n := Core.ind (P := fun x => ∀ (n : Int) (h0 : 0 ≤ n) (h : n + sumBy cC x.kids ≤ 2147483647) (hm : seqM mkC cC x.kids n = x.kids), P_c_heldCoreS x n) (fun x ih n h0 h hm => c_heldCoreS_s x n h0 h hm ih) x
theorem c_heldCoreSL (L : List Core) (n : Int) (h0 : 0 ≤ n) (h : n + sumBy cC L ≤ 2147483647) (hm : seqM mkC cC L n = L) : P_c_heldCoreS { (default : Core) with kids := L } n := c_heldCoreS { (default : Core) with kids := L } n h0 h hm
abbrev P_c_heldCore (x : Core) (n : Int) : Prop := CallOK Try.prog 104 [] [.agg [vI x.kind, vI x.number, vL (x.params.map intC), vI x.datum.kind, vI x.datum.number, vS x.datum.text, vL (x.datum.items.map datumC), vL (x.kids.map coreC)], li n] [] (.sv (li (n + x.params.length + sumBy cD x.datum.items + sumBy cC x.kids)))
theorem run_c_heldCore (x : Core) (n : Int) : aexec Try.prog (Option.getD (Func.body Try.f104) Code.skip) (entry [] [SV.agg [vI (Core.kind x), vI (Core.number x), vL (List.map intC
 (Core.params x)), vI (Datum.kind (Core.datum x)), vI (Datum.number (Core.datum x)), vS (Datum.text (Core.datum x)), vL (List.map datumC (Datum.items (Core.datum x))), vL (List.map
 coreC (Core.kids x))], li n] 24) [Orc.call [Mode.rd, Mode.rd] [] (AV.sv (li (n + (↑(List.length (Core.params x)) : Int)))), Orc.br [Orc.fin []] [Orc.call [Mode.rd, Mode.rd] []
 (AV.sv (li (n + (↑(List.length (Core.params x)) : Int) + (↑(sumBy cD (Datum.items (Core.datum x))) : Int)))), Orc.br [Orc.fin []] [Orc.call [Mode.rd, Mode.rd] [] (AV.sv (li (n +
 (↑(List.length (Core.params x)) : Int) + (↑(sumBy cD (Datum.items (Core.datum x))) : Int) + (↑(sumBy cC (Core.kids x)) : Int)))), Orc.br [Orc.fin []] [Orc.fin []]]]] (finK
 Try.prog [ResultVar.tmp 4] [] (AV.sv (li (n + (↑(List.length (Core.params x)) : Int) + (↑(sumBy cD (Datum.items (Core.datum x))) : Int) + (↑(sumBy cC (Core.kids x)) : Int))))) =
 (P_c_heldIntS (Core.params x) n ∧ (decide (n + (↑(List.length (Core.params x)) : Int) < 0) = true → ObsEq [] [] ∧ AV.sv (li (-1 : Int)) = AV.sv (li (n + (↑(List.length
 (Core.params x)) : Int) + (↑(sumBy cD (Datum.items (Core.datum x))) : Int) + (↑(sumBy cC (Core.kids x)) : Int)))) ∧ (decide (n + (↑(List.length (Core.params x)) : Int) < 0) =
 false → P_c_heldDatum (Core.datum x) (n + (↑(List.length (Core.params x)) : Int)) ∧ (decide (n + (↑(List.length (Core.params x)) : Int) + (↑(sumBy cD (Datum.items (Core.datum x)))
 : Int) < 0) = true → ObsEq [] [] ∧ AV.sv (li (-1 : Int)) = AV.sv (li (n + (↑(List.length (Core.params x)) : Int) + (↑(sumBy cD (Datum.items (Core.datum x))) : Int) + (↑(sumBy cC
 (Core.kids x)) : Int)))) ∧ (decide (n + (↑(List.length (Core.params x)) : Int) + (↑(sumBy cD (Datum.items (Core.datum x))) : Int) < 0) = false → CallOK Try.prog 210 [] [ll
 (List.map coreC (Core.kids x)), li (n + (↑(List.length (Core.params x)) : Int) + (↑(sumBy cD (Datum.items (Core.datum x))) : Int))] [] (AV.sv (li (n + (↑(List.length (Core.params
 x)) : Int) + (↑(sumBy cD (Datum.items (Core.datum x))) : Int) + (↑(sumBy cC (Core.kids x)) : Int)))) ∧ (decide (n + (↑(List.length (Core.params x)) : Int) + (↑(sumBy cD
 (Datum.items (Core.datum x))) : Int) + (↑(sumBy cC (Core.kids x)) : Int) < 0) = true → ObsEq [] [] ∧ AV.sv (li (-1 : Int)) = AV.sv (li (n + (↑(List.length (Core.params x)) : Int)
 + (↑(sumBy cD (Datum.items (Core.datum x))) : Int) + (↑(sumBy cC (Core.kids x)) : Int)))) ∧ (decide (n + (↑(List.length (Core.params x)) : Int) + (↑(sumBy cD (Datum.items
 (Core.datum x))) : Int) + (↑(sumBy cC (Core.kids x)) : Int) < 0) = false → ObsEq [] [] ∧ AV.sv (li (n + (↑(List.length (Core.params x)) : Int) + (↑(sumBy cD (Datum.items
 (Core.datum x))) : Int) + (↑(sumBy cC (Core.kids x)) : Int))) = AV.sv (li (n + (↑(List.length (Core.params x)) : Int) + (↑(sumBy cD (Datum.items (Core.datum x))) : Int) + (↑(sumBy
 cC (Core.kids x)) : Int))))))) := by kernel_rfl
theorem c_heldCore (x : Core) (n : Int) (h0 : 0 ≤ n) (h : n + (x.params.length + sumBy cD x.datum.items + sumBy cC x.kids : Nat) ≤ 2147483647) (hm0 : seqM mkI cOne x.params (n) =
 x.params) (hm1 : seqM mkD cD x.datum.items (n + x.params.length) = x.datum.items) (hm2 : seqM mkC cC x.kids (n + x.params.length + sumBy cD x.datum.items) = x.kids)  :
 P_c_heldCore x n := by
  refine CallOK.ofRun wide (run_c_heldCore x n) Try.call104 Try.func104 rfl rfl rfl ?_
  with_reducible repeat' (first | apply And.intro | exact flatI | exact flatS | exact rowLens | (intro; skip) | apply obsN | apply obsC | apply obA | apply obM | apply obB | apply svA | apply tupA | apply lcA | apply lcS | apply svC | apply liC | apply lbC | apply lsC | apply vIc | apply vBc | apply vSc | apply vLc | apply mapC | apply c_heldIntS | apply c_heldDatum | apply c_heldCoreS | apply c_heldCoreSL)
  all_goals (try simp only [std, stdM] at *)
  all_goals (try (first | with_reducible rfl | omega | assumption | (refine (decide_eq_true ?_).symm; assumption) | (refine (decide_eq_false ?_).symm; assumption) | (refine rowGet ?_; (first | omega | (simp only [std, stdM]; omega) | grind)) | (refine getC ?_ rfl; (first | omega | (simp only [std, stdM]; omega) | grind)) | (refine fill_step ?_ ?_; (first | omega | (simp only [std, stdM]; omega) | grind); (first | rfl | exact (Row.eq _).trans rfl)) | (refine fill_init ?_; (first | rfl | exact (Row.eq _).trans rfl)) | (refine set_row ?_; (simp only [List.length_map, List.length_set, mkTo_len]; omega)) | (refine mkToRow ?_; (first | omega | (simp only [std, stdM]; omega) | grind)) | (refine mkTo_row ?_ rfl; (first | omega | (simp only [std, stdM]; omega) | grind)) | (refine mkTo_step ?_ ?_; (first | omega | (simp only [std, stdM]; omega) | grind); (first | grind [snocI, snocS, rowSnoc])) | grind [snocI, snocS, rowSnoc]))
end Go.Proofs.Ytehpjofddjmbpaa
end
