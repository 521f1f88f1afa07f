/- The abstract machine, part 19: the call as an operation; every operation in one function. No condition. -/
import Derived.Test.YtjaahbkdpodbbaaAb18
namespace Go.Proofs.Ytjaahbkdpodbbaa.Ab
open Go
set_option linter.unusedVariables false

section
variable {P : Program} {E : Ent} {s : St} {ι : Interp} {a : Act} {w : World}

def evAll (s : St) : List Operand → Option (List AV)
  | [] => some []
  | x :: r => match s.ev x, evAll s r with
    | some v, some l => some (v :: l)
    | _, _ => none

theorem evAll_rel (h : Rel E s ι a w) : ∀ {xs : List Operand} {l : List AV}, evAll s xs = some l → All2 (AVRel w ι s.obj) l (xs.map a.eval)
  | [], l, e => by simp only [evAll, Option.some.injEq] at e; subst e; trivial
  | x :: xs, l, e => by
    simp only [evAll] at e
    split at e
    · rename_i v l' h1 h2
      simp only [Option.some.injEq] at e; subst e
      exact ⟨ev_rel h h1, evAll_rel h h2⟩
    · cases e

def callSlots : Nat := 8

def eCall (P : Program) (s : St) (f : FuncId) (args : Array Operand) (n : Nat) (q : List Orc) : Option (Res × List Item × List Orc) :=
  match q with
  | .call ms objs1 res :: q => match evAll s args.toList with
    | some avs => match passAll s {} ms avs with
      | some p => if p.lent.all (fun i => !p.emb.elem (some i)) = true ∧ objs1.length ≤ callSlots ∧ (p.lent = [] ∨ (objs1.all Ob.noG = true ∧ res.acs.all AC.noG = true)) then
          some ({ val := res.ren (renOf p.emb n), upd := backUpd p.emb n objs1, inv := somes p.emb }, [.obl (CallOK P f p.objs p.args objs1 res)], q) else none
      | none => none
    | none => none
  | _ => none

theorem eCall_sound (h : Rel E s ι a w) {o : Oper} {f : FuncId} {args : Array Operand} {tys : Array TypeId} (ho : o.op = .call { callee := .value (.func f), args := args, argTypes := tys }) {n : Nat} {r : Res} {q q' : List Orc}
    {it : List Item} {K : Prop} (e : eCall P s f args n q = some (r, it, q')) (vc : VC it K) (hroom : Room s n callSlots) : EOK P E s a w o n r ∧ K := by
  unfold eCall at e
  split at e
  · rename_i ms objs1 res q1
    split at e
    · rename_i avs hav
      split at e
      · rename_i p hp
        split at e
        · rename_i hc
          obtain ⟨hlent, hlen, hG⟩ := hc
          simp only [Option.some.injEq, Prod.mk.injEq] at e
          obtain ⟨rfl, rfl, rfl⟩ := e
          obtain ⟨hcall, hK⟩ := vc
          refine ⟨?_, hK⟩
          obtain ⟨ok, zs, hz, hargs⟩ := passAll_ok (ys := []) (PassOK.nil s) hp trivial
          simp only [List.nil_append] at hargs
          have hl : ∀ i ∈ p.lent, some i ∉ p.emb := fun i hi => by simpa using (List.all_eq_true.1 hlent) i hi
          have hvals : All2 (SVRel w ι s.obj) zs (args.map a.eval).toList := by
            have := evAll_rel h hav
            rw [hz] at this
            rw [Array.toList_map]
            have conv : ∀ {l : List SV} {vs : List Value}, All2 (AVRel w ι s.obj) (l.map .sv) vs → All2 (SVRel w ι s.obj) l vs := by
              intro l
              induction l with
              | nil => intro vs hv; cases vs with | nil => trivial | cons => exact hv.elim
              | cons x l ih => intro vs hv; cases vs with
                | nil => exact hv.elim
                | cons v vs => exact ⟨hv.1, ih hv.2⟩
            exact conv this
          have hroom' : Room s n objs1.length := fun i h1 h2 => hroom i h1 (by omega)
          intro next Q k
          have hrun : (execOp a.eval o).run P w = .ok (.enter f (args.map a.eval)) w := by
            have := hcall.1 (args.map a.eval) w
            simp [execOp, ho, resolve, Act.eval, Deferred.ofValue, invoke, this]
          simp only [Oper.wp, hrun, Oper.upon_enter]
          by_cases hl0 : p.lent = []
          · have hpre := pre_of_pass (R := ι.G) h ok (fun _ hb => hb) (by simp [hl0]) (fun _ hb => .inl hb) hargs hvals
            refine (hcall.2 w _ _ hpre).mono ?_
            rintro e w' ⟨v, ι1, rfl, hpost⟩
            obtain ⟨ι', k1, k2⟩ := call_rel h ok (fun _ hb => .inl hb) hroom' hpost (.inl ⟨hl0, rfl⟩)
            exact k ι' v w' k1 k2
          · have hG' := hG.resolve_left hl0
            have hpre := pre_of_pass (R := fun b => ι.G b ∨ ∃ id, some id ∉ p.emb ∧ ι.fp id b) h ok (fun _ hb => .inl hb) (fun i hi b hb => .inr ⟨i, hl i hi, hb⟩) (fun _ hb => hb) hargs hvals
            refine (hcall.2 w _ _ hpre).mono ?_
            rintro e w' ⟨v, ι1, rfl, hpost⟩
            obtain ⟨ι', k1, k2⟩ := call_rel h ok (fun _ hb => hb) hroom' hpost (.inr hG')
            exact k ι' v w' k1 k2
        · cases e
      · cases e
    · cases e
  · cases e

/-! ### every operation -/
/-- how many numbers an operation may take for new objects -/
def slots (o : Oper) : Nat :=
  match o.op with
  | .alloc _ | .box .. | .buildSlice .. | .makeSlice .. => 1
  | .call { callee := .builtin .append, .. } => 1
  | .call { callee := .value _, .. } => callSlots
  | _ => 0

def aop (P : Program) (s : St) (o : Oper) (n : Nat) (q : List Orc) : Option (Res × List Item × List Orc) :=
  match o.op with
  | .alloc T => (eAlloc P T n).map fun r => (r, [], q)
  | .box _ x => (eBox s x n).map fun r => (r, [], q)
  | .build T ps => (eBuild P s T ps).map fun r => (r, [], q)
  | .buildSlice T len ps => (eBuildSlice P s T len ps n).map fun r => (r, [], q)
  | .makeSlice T lo co => (eMake P s T lo co n).map fun r => (r.1, r.2, q)
  | .store T ad x => match eStoreBox P s T ad x with
    | some r => some (r, [], q)
    | none => eStoreArr P s T ad x q
  | .call { callee := .builtin .append, args := args, argTypes := tys } => eAppend P s args tys n q
  | .call { callee := .value (.func f), args := args, .. } => eCall P s f args n q
  | _ => (vop P s o q).map fun r => ({ val := r.1 }, r.2.1, r.2.2)

theorem vok_eok (h : Rel E s ι a w) {o : Oper} {x : AV} (hv : VOK P s ι a w o x) (n : Nat) : EOK P E s a w o n { val := x } := by
  obtain ⟨v, h1, h2⟩ := hv
  exact EOK.value h1 h h2

theorem aop_sound (h : Rel E s ι a w) {o : Oper} {n : Nat} {r : Res} {it : List Item} {q q' : List Orc} {K : Prop} (e : aop P s o n q = some (r, it, q')) (vc : VC it K) (hroom : Room s n (slots o)) :
    EOK P E s a w o n r ∧ K := by
  unfold aop at e
  split at e
  · rename_i T ho
    cases hr : eAlloc P T n with
    | none => simp [hr] at e
    | some r' =>
      simp only [hr, Option.map_some, Option.some.injEq, Prod.mk.injEq] at e
      obtain ⟨rfl, rfl, rfl⟩ := e
      have hl : r'.new.length ≤ 1 := by unfold eAlloc at hr; cases hz : zeroACs P T <;> simp [hz] at hr; subst hr; simp
      exact ⟨eAlloc_sound h ho hr fun i h1 h2 => hroom i h1 (by simp only [slots, ho]; omega), vc⟩
  · rename_i T x ho
    cases hr : eBox s x n with
    | none => simp [hr] at e
    | some r' =>
      simp only [hr, Option.map_some, Option.some.injEq, Prod.mk.injEq] at e
      obtain ⟨rfl, rfl, rfl⟩ := e
      have hl : r'.new.length ≤ 1 := by
        unfold eBox at hr
        split at hr
        · rename_i v _; cases hz : svCells v <;> simp [hz] at hr; subst hr; simp
        · cases hr
      exact ⟨eBox_sound h ho hr fun i h1 h2 => hroom i h1 (by simp only [slots, ho]; omega), vc⟩
  · rename_i T ps ho
    cases hr : eBuild P s T ps with
    | none => simp [hr] at e
    | some r' =>
      simp only [hr, Option.map_some, Option.some.injEq, Prod.mk.injEq] at e
      obtain ⟨rfl, rfl, rfl⟩ := e
      exact ⟨eBuild_sound h ho hr, vc⟩
  · rename_i T len ps ho
    cases hr : eBuildSlice P s T len ps n with
    | none => simp [hr] at e
    | some r' =>
      simp only [hr, Option.map_some, Option.some.injEq, Prod.mk.injEq] at e
      obtain ⟨rfl, rfl, rfl⟩ := e
      have hl : r'.new.length ≤ 1 := by
        unfold eBuildSlice at hr
        repeat (split at hr <;> first | (cases hr; done) | skip)
        simp only [Option.some.injEq] at hr; subst hr; simp
      exact ⟨eBuildSlice_sound h ho hr fun i h1 h2 => hroom i h1 (by simp only [slots, ho]; omega), vc⟩
  · rename_i T lo co ho
    cases hr : eMake P s T lo co n with
    | none => simp [hr] at e
    | some r' =>
      obtain ⟨r1, it1⟩ := r'
      simp only [hr, Option.map_some, Option.some.injEq, Prod.mk.injEq] at e
      obtain ⟨rfl, rfl, rfl⟩ := e
      have hl : r1.new.length ≤ 1 := by
        unfold eMake at hr
        repeat (split at hr <;> first | (cases hr; done) | skip)
        simp only [Option.some.injEq, Prod.mk.injEq] at hr; obtain ⟨rfl, _⟩ := hr; simp
      exact eMake_sound h ho hr vc fun i h1 h2 => hroom i h1 (by simp only [slots, ho]; omega)
  · rename_i T ad x ho
    split at e
    · rename_i r' hr
      simp only [Option.some.injEq, Prod.mk.injEq] at e
      obtain ⟨rfl, rfl, rfl⟩ := e
      exact ⟨eStoreBox_sound h ho hr, vc⟩
    · exact eStoreArr_sound h ho e vc
  · rename_i args tys ho
    refine eAppend_sound h ho e vc fun i h1 h2 => hroom i h1 ?_
    have hl : r.new.length ≤ 1 := by
      unfold eAppend at e
      repeat (split at e <;> first | (cases e; done) | skip)
      simp only [Option.some.injEq, Prod.mk.injEq] at e; obtain ⟨rfl, _⟩ := e; simp
    simp only [slots, ho]; omega
  · rename_i f args tys ho
    exact eCall_sound h ho e vc fun i h1 h2 => hroom i h1 (by simp only [slots, ho]; exact h2)
  · cases hr : vop P s o q with
    | none => simp [hr] at e
    | some r' =>
      obtain ⟨x, it1, q1⟩ := r'
      simp only [hr, Option.map_some, Option.some.injEq, Prod.mk.injEq] at e
      obtain ⟨rfl, rfl, rfl⟩ := e
      obtain ⟨h1, h2⟩ := vop_sound h hr vc
      exact ⟨vok_eok h h1 n, h2⟩

end
end Go.Proofs.Ytjaahbkdpodbbaa.Ab
