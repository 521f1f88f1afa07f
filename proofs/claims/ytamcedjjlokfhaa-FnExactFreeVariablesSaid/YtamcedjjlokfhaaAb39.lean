/- The abstract machine, part 39: what is told between two operations; the operations of a region in their order. No condition. -/
import Derived.Test.YtamcedjjlokfhaaAb38
namespace Go.Proofs.Ytamcedjjlokfhaa.Ab
open Go
set_option linter.unusedVariables false

def applyGhost (s : St) : Ghost → Option St
  | .sel ids keep => match selOK s.m ids with
    | true => some (s.sel ids keep)
    | false => none
  | .lock id => match s.obj id with
    | .arr _ _ es => some (s.lock id es)
    | _ => none
  | .nilreg t own sz => nilReg s t own sz
  | .nilbox id k own sz => nilBox s id k own sz
  | .nilmreg t k => nilMReg s t k
  | .nilmbox id j k => nilMBox s id j k
  | .move id => moveSt s id

def withGhost : List Orc → St → (St → List Orc → Prop) → Prop
  | .ghost g :: q, s, k => match applyGhost s g with
    | some s' => withGhost q s' k
    | none => StuckGhost s g
  | q, s, k => k s q

section
variable {P : Program} {E : Ent} {s : St} {ι : Interp} {a : Act} {w : World}

theorem ghost_rel : ∀ {q : List Orc} {s : St} {k : St → List Orc → Prop} {ι : Interp}, withGhost q s k → Rel E s ι a w → ∃ s' q' ι', k s' q' ∧ Rel E s' ι' a w
  | [], s, k, ι, hx, h => ⟨_, _, _, hx, h⟩
  | o :: q, s, k, ι, hx, h => by
    cases o with
    | ghost g =>
      simp only [withGhost] at hx
      split at hx
      · rename_i s' he
        cases g with
        | sel ids keep =>
          simp only [applyGhost] at he
          split at he
          · rename_i hok
            simp only [Option.some.injEq] at he; subst he
            exact ghost_rel hx (h.sel keep hok)
          · cases he
        | lock id =>
          simp only [applyGhost] at he
          split at he
          · rename_i ho
            simp only [Option.some.injEq] at he; subst he
            obtain ⟨ι', h'⟩ := h.lock ho
            exact ghost_rel hx h'
          · cases he
        | nilreg t own sz =>
          obtain ⟨ι', h'⟩ := nilReg_rel h he
          exact ghost_rel hx h'
        | nilbox id k own sz =>
          obtain ⟨ι', h'⟩ := nilBox_rel h he
          exact ghost_rel hx h'
        | nilmreg t k =>
          obtain ⟨ι', h'⟩ := nilMReg_rel h he
          exact ghost_rel hx h'
        | nilmbox id j k =>
          obtain ⟨ι', h'⟩ := nilMBox_rel h he
          exact ghost_rel hx h'
        | move id =>
          obtain ⟨ι', h'⟩ := moveSt_rel h he
          exact ghost_rel hx h'
      · cases hx
    | _ => exact ⟨_, _, _, hx, h⟩

/-- ahead of a call: what is told of the state -/
def preG (o : Oper) (q : List Orc) (s : St) (k : St → List Orc → Prop) : Prop :=
  match o.op with
  | .call { callee := .value _, .. } => withGhost q s k
  | _ => k s q

theorem preG_rel {o : Oper} {q : List Orc} {k : St → List Orc → Prop} (hx : preG o q s k) (h : Rel E s ι a w) : ∃ s' q' ι', k s' q' ∧ Rel E s' ι' a w := by
  unfold preG at hx
  split at hx
  · exact ghost_rel hx h
  · exact ⟨_, _, _, hx, h⟩

def aops (P : Program) (ops : Array Oper) : List Nat → St → List Orc → (St → List Orc → Prop) → Prop
  | [], s, q, k => k s q
  | i :: rest, s, q, k => match ops[i]? with
    | none => aops P ops rest s q k
    | some o => match wantedA ops s o with
      | none => StuckGuard s o
      | some false => aops P ops rest (s.put o.dst (.tup [])) q k
      | some true => preG o q s fun s q => match aopS P (s.grow (slots o)) o s.objs.length q with
        | none => StuckOp s o s.objs.length
        | some (r, it, q') => VC it (fSt ((((s.grow (slots o)).app s.objs.length r).put o.dst r.val).shrink) fun s => decideI (isSrc ops i) o.dst s q' (fun s q => aops P ops rest s q k))

theorem aops_sound {ops : Array Oper} {Q : Exit → Act → World → Prop} : ∀ {l : List Nat} {s : St} {q : List Orc} {k : St → List Orc → Prop} {ι : Interp} {a : Act} {w : World},
    aops P ops l s q k → Rel E s ι a w → (∀ s' q' ι' a' w', k s' q' → Rel E s' ι' a' w' → Q .normal a' w') → wpOps P ops Q l a w
  | [], s, q, k, ι, a, w, hx, h, hk => hk _ _ _ _ _ hx h
  | i :: rest, s, q, k, ι, a, w, hx, h, hk => by
    unfold aops at hx
    unfold wpOps
    split at hx
    · rename_i ho; simp only [ho]; exact aops_sound hx h hk
    · rename_i o ho
      simp only [ho]
      split at hx
      · cases hx
      · rename_i hw
        rw [wanted_rel h hw]
        simp only [Bool.false_eq_true, if_false]
        exact aops_sound hx (Rel.put h o.dst undef_rel) hk
      · rename_i hw
        rw [wanted_rel h hw]
        simp only [if_true]
        obtain ⟨s, q, ι, hx, h⟩ := preG_rel hx h
        split at hx
        · cases hx
        · rename_i r it q' he
          rw [fSt_eq] at hx
          obtain ⟨h1, h2⟩ := aopS_sound (h.grow (slots o)) he hx (room_grow s _)
          left
          refine h1 _ _ fun ι' v w' hr hv => ?_
          obtain ⟨s', q'', hk', hr'⟩ := decideI_rel (Rel.shrink (Rel.put hr o.dst hv)) h2
          exact aops_sound hk' hr' hk

end
end Go.Proofs.Ytamcedjjlokfhaa.Ab
