/- The abstract machine, part 9: the effect of an operation on an abstract state; new variables, struct literals, stores into variables. No condition. -/
import Derived.Test.YtamcedjjlokfhaaAb8
namespace Go.Proofs.Ytamcedjjlokfhaa.Ab
open Go
set_option linter.unusedVariables false

structure Res where
  val : AV := .sv (.one .top)
  new : List Ob := []
  upd : List (Nat × Ob) := []
  inv : List Nat := []

def invAC (ids : List Nat) (c : AC) : AC := match c.src with | some id => if ids.elem id then .top else c | none => c
def invSV (ids : List Nat) : SV → SV
  | .one c => .one (invAC ids c)
  | .agg cs => .agg (cs.map (invAC ids))
def invAV (ids : List Nat) : AV → AV
  | .sv x => .sv (invSV ids x)
  | .tup l => .tup (l.map (invSV ids))
def invOb (ids : List Nat) : Ob → Ob
  | .box cs => .box (cs.map (invAC ids))
  | o => o

def St.inval (ids : List Nat) (s : St) : St := match ids with | [] => s | _ => { s with regs := s.regs.map (invAV ids), objs := s.objs.map (invOb ids) }

def St.setObs (s : St) : Nat → List Ob → St
  | _, [] => s
  | n, o :: r => (s.setOb n o).setObs (n + 1) r

def St.updObs (s : St) : List (Nat × Ob) → St
  | [] => s
  | (n, o) :: r => (s.setOb n o).updObs r

def St.app (s : St) (n : Nat) (r : Res) : St := ((s.inval r.inv).updObs r.upd).setObs n r.new

/-- there is room for new objects from n on -/
def Room (s : St) (n : Nat) (k : Nat) : Prop := ∀ i, n ≤ i → i < n + k → s.obj i = .free ∧ i < s.objs.length

section
variable {P : Program} {E : Ent} {s : St} {ι : Interp} {a : Act} {w : World}

def EOK (P : Program) (E : Ent) (s : St) (a : Act) (w : World) (o : Oper) (n : Nat) (r : Res) : Prop :=
  ∀ (next : Act → World → Prop) (Q : Exit → Act → World → Prop),
    (∀ ι' v w', Rel E (s.app n r) ι' a w' → AVRel w' ι' (s.app n r).obj r.val v → next (a.put o.dst v) w') → o.wp P a w next Q

theorem EOK.value {o : Oper} {n : Nat} {r : Res} {ι' : Interp} {v : Value} {w' : World} (he : (execOp a.eval o).run P w = .ok (.value v) w') (h : Rel E (s.app n r) ι' a w')
    (hv : AVRel w' ι' (s.app n r).obj r.val v) : EOK P E s a w o n r := by
  intro next Q k
  simp only [Oper.wp, he, Oper.upon_value]
  exact k ι' v w' h hv

theorem EOK.skip {o : Oper} {n : Nat} {r : Res} {ι' : Interp} {w' : World} (he : (execOp a.eval o).run P w = .ok .skip w') (h : Rel E (s.app n r) ι' a w')
    (hv : AVRel w' ι' (s.app n r).obj r.val undef) : EOK P E s a w o n r := by
  intro next Q k
  simp only [Oper.wp, he, Oper.upon_skip]
  exact k ι' undef w' h hv

/-! ### new variables -/
def zeroACs (P : Program) (T : TypeId) : Option (List AC) :=
  match P.info? T with
  | some i => match i.zero with
    | some z => if z.cells.toList.all litB then some (z.cells.toList.map fun v => .val (.lit v)) else none
    | none => none
  | none => none

theorem zeroACs_ok {T : TypeId} {cs : List AC} (e : zeroACs P T = some cs) (w : World) (ι : Interp) (ob : Nat → Ob) : ∃ z, (∀ w : World, (zeroValue T).run P w = .ok z w) ∧ All2 (CRel w ι ob) cs z.cells.toList := by
  unfold zeroACs at e
  split at e
  · rename_i i hi
    split at e
    · rename_i z hz
      split at e
      · rename_i hb
        simp only [Option.some.injEq] at e; subst e
        refine ⟨z, fun w => by simp [zeroValue, typeInfo, hi, hz], All2.map_left _ (All2.of_get rfl fun k x y hx hy => ?_)⟩
        rw [hx] at hy
        simp only [Option.some.injEq] at hy; subst hy
        have := litB_ok (List.all_eq_true.1 hb x (List.mem_of_getElem? hx))
        exact ⟨.lit this, this.one⟩
      · cases e
    · cases e
  · cases e

def eAlloc (P : Program) (T n : Nat) : Option Res := (zeroACs P T).map fun cs => { val := .sv (.one (.ptr n 0)), new := [.box cs] }

theorem eAlloc_sound (h : Rel E s ι a w) {o : Oper} {T : TypeId} (ho : o.op = .alloc T) {n : Nat} {r : Res} (e : eAlloc P T n = some r) (hroom : Room s n r.new.length) : EOK P E s a w o n r := by
  unfold eAlloc at e
  cases hz : zeroACs P T with
  | none => simp [hz] at e
  | some cs =>
    simp only [hz, Option.map_some, Option.some.injEq] at e; subst e
    obtain ⟨z, h1, h2⟩ := zeroACs_ok hz w ι s.obj
    obtain ⟨hf, hn⟩ := hroom n (Nat.le_refl _) (by simp)
    obtain ⟨ι', h3, h4⟩ := h.newBox hf hn T h2
    refine EOK.value ?_ h3 h4
    simp only [execOp, ho, Instr.alloc]
    simp [h1, newVar, newRow]

def eBox (s : St) (x : Operand) (n : Nat) : Option Res :=
  match s.ev x with
  | some (.sv v) => (svCells v).map fun cs => { val := .sv (.one (.ptr n 0)), new := [.box cs] }
  | _ => none

theorem eBox_sound (h : Rel E s ι a w) {o : Oper} {T : TypeId} {x : Operand} (ho : o.op = .box T x) {n : Nat} {r : Res} (e : eBox s x n = some r) (hroom : Room s n r.new.length) : EOK P E s a w o n r := by
  unfold eBox at e
  split at e
  · rename_i v hv
    cases hc : svCells v with
    | none => simp [hc] at e
    | some cs =>
      simp only [hc, Option.map_some, Option.some.injEq] at e; subst e
      obtain ⟨hf, hn⟩ := hroom n (Nat.le_refl _) (by simp)
      obtain ⟨ι', h3, h4⟩ := h.newBox hf hn T (svCells_rel hc (ev_rel h hv))
      refine EOK.value ?_ h3 h4
      simp only [execOp, ho, Instr.box]
      simp [newVar, newRow]
  · cases e

/-! ### struct literals -/
def partCells (s : St) : List (Nat × Operand) → Option (List (Nat × List AC))
  | [] => some []
  | (i, x) :: r => match s.ev x with
    | some (.sv v) => match svCells v, partCells s r with
      | some cs, some l => some ((i, cs) :: l)
      | _, _ => none
    | _ => none

theorem partCells_rel (h : Rel E s ι a w) : ∀ {ps : List (Nat × Operand)} {l : List (Nat × List AC)}, partCells s ps = some l →
    All2 (fun p q => p.1 = q.1 ∧ All2 (CRel w ι s.obj) p.2 q.2.cells.toList) l (ps.map fun x => (x.1, a.eval x.2))
  | [], l, e => by simp only [partCells, Option.some.injEq] at e; subst e; trivial
  | (i, x) :: ps, l, e => by
    simp only [partCells] at e
    split at e
    · rename_i v hv
      split at e
      · rename_i cs l' hc hl
        simp only [Option.some.injEq] at e; subst e
        exact ⟨⟨rfl, svCells_rel hc (ev_rel h hv)⟩, partCells_rel h hl⟩
      · cases e
    · cases e

def placesOf (P : Program) (fs : List Field) : Option (List (Nat × Nat)) := fs.mapM fun f => (P.info? f.type).map fun i => (f.offset, i.size)

def eBuild (P : Program) (s : St) (T : TypeId) (ps : Array (Nat × Operand)) : Option Res :=
  match P.underlying T with
  | some (.struct fs) => match placesOf P fs.toList, zeroACs P T, partCells s ps.toList with
    | some pl, some z, some l => (fillAC (pl.toArray[·]?) z l).map fun cs => { val := .sv (.agg cs) }
    | _, _, _ => none
  | _ => none

theorem eBuild_sound (h : Rel E s ι a w) {o : Oper} {T : TypeId} {ps : Array (Nat × Operand)} (ho : o.op = .build T ps) {n : Nat} {r : Res} (e : eBuild P s T ps = some r) : EOK P E s a w o n r := by
  unfold eBuild at e
  split at e
  · rename_i fs hu
    split at e
    · rename_i pl z l h1 h2 h3
      cases hf : fillAC (pl.toArray[·]?) z l with
      | none => rw [hf] at e; cases e
      | some cs =>
        rw [hf] at e
        simp only [Option.map_some, Option.some.injEq] at e; subst e
        have hparts := partCells_rel h h3
        unfold zeroACs at h2
        split at h2
        · rename_i i hi
          split at h2
          · rename_i zv hz
            obtain ⟨zv', hz1, hz2⟩ := zeroACs_ok (P := P) (T := T) (cs := z) (by unfold zeroACs; simp only [hi, hz]; exact h2) w ι s.obj
            have hzz : zv' = zv := by
              have := hz1 w
              simp [zeroValue, typeInfo, hi, hz] at this
              exact this.symm
            subst hzz
            obtain ⟨arr, h4, h5⟩ := fillAC_sound (pl.toArray[·]?) l _ z zv'.cells cs hparts hz2 hf
            have hb : P.built T (ps.toList.map fun x => (x.1, a.eval x.2)) = some arr := by
              unfold Program.built
              unfold placesOf at h1
              simp only [hi, hu, hz, h1]
              exact h4
            refine EOK.value (w' := w) (ι' := ι) (v := .agg arr) ?_ h ⟨arr, rfl, h5⟩
            simp only [execOp, ho]
            exact run_v _ (run_build w T _ arr (by simpa using hb))
          · cases h2
        · cases h2
    · cases e
  · cases e

/-! ### stores into variables -/
theorem Rel.setBox (h : Rel E s ι a w) {id : Nat} {cs cs' : List AC} (hb : s.obj id = .box cs) {arr' : Array Value} (hc : All2 (CRel w ι s.obj) cs' arr'.toList) :
    Rel E (s.setOb id (.box cs')) ι a (w.setRow (ι.blk id) arr') := by
  have hid : id < s.objs.length := lt_of_obj hb (by simp)
  have hob := h.objs id
  rw [hb] at hob
  obtain ⟨hfp, arr, ty, hheap, _⟩ := hob
  have hother : ∀ b, b ≠ ι.blk id → (w.setRow (ι.blk id) arr').heap[b]? = w.heap[b]? := fun b hne => setRow_other w _ b _ hne
  have hx : Ext (fun _ => True) w ι s.obj (w.setRow (ι.blk id) arr') ι (s.setOb id (.box cs')).obj := by
    refine ⟨fun b hg => ⟨hg, hother b fun e => h.gfp id b (by rw [e]; exact hfp) hg⟩, fun i => ?_⟩
    rw [obj_setOb hid]
    by_cases hi : i = id
    · subst hi; rw [if_pos rfl, hb]; rfl
    · rw [if_neg hi]
      cases e : s.obj i with
      | free => trivial
      | dead => trivial
      | box cs => rfl
      | arr own sz es => exact ⟨rfl, rfl, fun _ b hf => ⟨.inl hf, hother b fun e => h.disj i id b hi hf (by rw [e]; exact hfp)⟩⟩
      | map nn k f => exact ⟨rfl, rfl, rfl, fun _ b hf => ⟨.inl hf, hother b fun e => h.disj i id b hi hf (by rw [e]; exact hfp)⟩⟩
  refine Rel.step h hx (fun t => .inl ⟨rfl, fun _ _ _ _ => trivial⟩) rfl rfl (fun i => ?_) h.disj h.gfp h.own (fun i b hf => by simp [h.lt i b hf]) (fun b hg => by simp [h.glt b hg]) (fun b hlt hM => ?_) (by simp) rfl rfl
  · by_cases hi : i = id
    · subst hi; right
      rw [obj_setOb hid, if_pos rfl]
      exact ⟨hfp, arr', ty, setRow_heap w _ arr _ ty _ hheap, hc.imp fun c v hcv => ⟨ACRel.ext hx (fun _ _ => trivial) hcv.1, hcv.2⟩⟩
    · left
      refine ⟨by rw [obj_setOb hid, if_neg hi], ⟨rfl, rfl, fun b => Iff.rfl, fun b hf => hother b fun e => h.disj i id b hi hf (by rw [e]; exact hfp)⟩, fun _ _ _ _ => trivial⟩
  · refine hother b fun e => ?_
    rcases h.own id b (by rw [e]; exact hfp) with h1 | h1
    · exact hM h1
    · omega

theorem run_storeAt {T : TypeId} {v : Value} {b off n : Nat} {arr : Array Value} {ty : TypeId} (hT : tsize P T = some n) (hb : w.heap[b]? = some (.cells arr ty (0, 0))) (hl : v.cells.toList.length = n) (hfit : off + n ≤ arr.size)
    (h1 : ∀ u ∈ v.cells.toList, u.oneCell' = true) : (Instr.storeAt T (.pointer (some ⟨b, off, none⟩)) v).run P w = .ok () (w.setRow b (splice off v.cells.toList arr.toList).toArray) := by
  have hs := run_storeCells_at P b off ty v.cells.toList 0 arr w hb (by rw [Nat.add_zero, hl]; exact hfit) h1
  simp only [Nat.add_zero] at hs
  have hl' : v.cells.size = n := by simpa using hl
  simp only [Instr.storeAt, Instr.sureAddr, Sem.run_bind, Sem.run_pure, Result.andThen_ok, storeVar, run_sizeOf' hT, hl', ne_eq, not_true_eq_false, if_false, hs, splice]

def eStoreBox (P : Program) (s : St) (T : TypeId) (ad x : Operand) : Option Res :=
  match s.ac ad, s.ev x with
  | some (.ptr id off), some (.sv v) => match s.obj id, svCells v, tsize P T with
    | .box cs, some l, some n => if l.length = n ∧ off + n ≤ cs.length then some { upd := [(id, .box (splice off l cs))] } else none
    | _, _, _ => none
  | _, _ => none

theorem top_rel {ob : Nat → Ob} {v : Value} : AVRel w ι ob (.sv (.one .top)) v := ⟨trivial, fun h => (h rfl).elim⟩

theorem eStoreBox_sound (h : Rel E s ι a w) {o : Oper} {T : TypeId} {ad x : Operand} (ho : o.op = .store T ad x) {n : Nat} {r : Res} (e : eStoreBox P s T ad x = some r) : EOK P E s a w o n r := by
  unfold eStoreBox at e
  split at e
  · rename_i id off v had hx
    split at e
    · rename_i cs l m hob hl hT
      split at e
      · rename_i hfit
        simp only [Option.some.injEq] at e; subst e
        have hv := svCells_rel hl (ev_rel h hx)
        have hor := h.objs id
        rw [hob] at hor
        obtain ⟨hfp, arr, ty, hheap, hcs⟩ := hor
        have hp := (ac_rel h had).2 _ hob
        have hlen : (a.eval x).cells.toList.length = m := by rw [← hv.length]; exact hfit.1
        have hal : arr.size = cs.length := by rw [hcs.length]; simp
        have h1 : ∀ u ∈ (a.eval x).cells.toList, u.oneCell' = true := by
          intro u hu
          obtain ⟨k, hk⟩ := List.getElem?_of_mem hu
          obtain ⟨c, _, hc⟩ := hv.flip.get_left hk
          exact hc.2
        refine EOK.skip (ι' := ι) (w' := w.setRow (ι.blk id) (splice off (a.eval x).cells.toList arr.toList).toArray) ?_ (h.setBox hob ?_) top_rel
        · simp only [execOp, ho, hp]
          rw [Sem.run_bind, run_storeAt hT hheap hlen (by omega) h1]
          rfl
        · exact hv.splice hcs
      · cases e
    · cases e
  · cases e

end
end Go.Proofs.Ytamcedjjlokfhaa.Ab
