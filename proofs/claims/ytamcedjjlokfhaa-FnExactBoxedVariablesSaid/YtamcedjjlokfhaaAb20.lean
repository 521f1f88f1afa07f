/- The abstract machine, part 20: regions in their order, and code, as a condition on abstract states. No condition. -/
import Derived.Test.YtamcedjjlokfhaaAb34
import Derived.LoopN
namespace Go.Proofs.Ytamcedjjlokfhaa.Ab
open Go
set_option linter.unusedVariables false

/-! ### where a run stops for want of a script -/
inductive StuckOp (s : St) (o : Oper) (n : Nat) : Prop
inductive StuckB (b : Bool) : Prop
inductive StuckGuard (s : St) (o : Oper) : Prop
inductive StuckGhost (s : St) (g : Ghost) : Prop
inductive StuckLoop (s : St) (c : Code) : Prop
inductive StuckFin (s : St) : Prop
inductive StuckOut (e : AEx) (s : St) : Prop
inductive StuckCode (c : Code) : Prop
inductive StuckCond (s : St) (x : Operand) : Prop

def trimCons : Ob → List Ob → List Ob
  | .free, [] => []
  | o, acc => o :: acc

def trim : List Ob → List Ob
  | [] => []
  | o :: l => trimCons o (trim l)

theorem trimCons_get (o : Ob) (l : List Ob) (i : Nat) : (trimCons o l).getD i .free = (o :: l).getD i .free := by
  cases o <;> cases l <;> first | rfl | (cases i <;> rfl)

theorem trim_get : ∀ (l : List Ob) (i : Nat), (trim l).getD i .free = l.getD i .free
  | [], _ => rfl
  | o :: l, i => by
    rw [trim, trimCons_get]
    cases i with
    | zero => rfl
    | succ i => exact trim_get l i

def St.grow (s : St) (k : Nat) : St := { s with objs := s.objs ++ List.replicate k .free }
def St.shrink (s : St) : St := { s with objs := trim s.objs }

theorem obj_shrink (s : St) : s.shrink.obj = s.obj := funext fun i => trim_get s.objs i
theorem obj_grow (s : St) (k : Nat) : (s.grow k).obj = s.obj := by
  funext i
  simp only [St.grow, St.obj, List.getD_eq_getElem?_getD, List.getElem?_append, List.getElem?_replicate]
  by_cases h : i < s.objs.length
  · simp [h]
  · rw [if_neg h, List.getElem?_eq_none (Nat.le_of_not_lt h)]
    split <;> rfl

section
variable {P : Program} {E : Ent} {s : St} {ι : Interp} {a : Act} {w : World}

theorem Rel.shrink (h : Rel E s ι a w) : Rel E s.shrink ι a w := h.sameObj rfl (obj_shrink s) rfl
theorem Rel.grow (h : Rel E s ι a w) (k : Nat) : Rel E (s.grow k) ι a w := h.sameObj rfl (obj_grow s k) rfl

theorem Rel.world (h : Rel E s ι a w) {w' : World} (hh : w'.heap = w.heap) (ho : w'.os = w.os) (hp : w'.output = w.output) : Rel E s ι a w' := by
  have hb : ∀ b : Nat, w'.heap[b]? = w.heap[b]? := fun b => by rw [hh]
  have hx : Ext (fun _ => True) w ι s.obj w' ι s.obj := ⟨fun b hg => ⟨hg, hb b⟩, fun i => by cases s.obj i <;> simp [OStep, hb] <;> exact fun b hf => .inl hf⟩
  refine Rel.step h hx (fun t => .inl ⟨rfl, fun _ _ _ _ => trivial⟩) rfl rfl (fun i => .inl ⟨rfl, ⟨rfl, rfl, fun b => Iff.rfl, fun b _ => hb b⟩, fun _ _ _ _ => trivial⟩)
    h.disj h.gfp h.own (by rw [hh]; exact h.lt) (by rw [hh]; exact h.glt) (fun b _ _ => hb b) (by rw [hh]; exact Nat.le_refl _) ho hp

theorem room_grow (s : St) (k : Nat) : Room (s.grow k) s.objs.length k := by
  intro i h1 h2
  refine ⟨?_, by simp [St.grow]; omega⟩
  rw [obj_grow]
  simp [St.obj, List.getElem?_eq_none h1]

/-! ### guards and decisions -/
def St.bit (s : St) (t : Nat) : Option (Option Bool) := match s.reg t with
  | .sv (.one (.val (.lit (.bool b)))) => some (some b)
  | .tup [] => some none
  | _ => none

/-- is the operation carried out? -/
def wantedA (ops : Array Oper) (s : St) (o : Oper) : Option Bool :=
  match o.guard with
  | none => some true
  | some (g, want) => match (ops[g]?).bind (·.dst) with
    | some t => match s.bit t with
      | some (some b) => some (b == want)
      | some none => some false
      | none => none
    | none => none

def bitV : Option Bool → Value → Prop
  | some b, v => v = .bool b
  | none, v => ∃ arr, v = .tuple arr

theorem lt_of_bit {s : St} {t : Nat} {x : Option Bool} (e : s.bit t = some x) : t < s.regs.length := by
  rcases Nat.lt_or_ge t s.regs.length with h | h
  · exact h
  · simp [St.bit, St.reg, List.getElem?_eq_none h] at e

theorem bit_rel (h : Rel E s ι a w) {t : Nat} {x : Option Bool} (e : s.bit t = some x) : ∃ v, a.tmps[t]? = some v ∧ bitV x v := by
  have hr := h.regs t
  have ht := lt_of_bit e
  rw [h.len] at ht
  refine ⟨a.tmps.getD t undef, by simp [ht], ?_⟩
  unfold St.bit at e
  split at e
  · rename_i b hb
    simp only [Option.some.injEq] at e; subst e
    rw [hb] at hr
    exact (Rd.lit_inv (show Rd w ι.G _ (.lit (.bool b)) from hr.1)).1
  · rename_i hb
    simp only [Option.some.injEq] at e; subst e
    rw [hb] at hr
    obtain ⟨arr, e1, e2⟩ := hr
    exact ⟨arr, e1⟩
  · cases e

theorem wanted_rel (h : Rel E s ι a w) {ops : Array Oper} {o : Oper} {b : Bool} (e : wantedA ops s o = some b) : Region.wanted o (yielded ops a.tmps) = b := by
  unfold wantedA at e
  unfold Region.wanted
  split at e
  · rename_i hg; simp only [Option.some.injEq] at e; subst e; simp [hg]
  · rename_i g want hg
    simp only [hg]
    split at e
    · rename_i t ht
      unfold yielded
      rw [ht]
      simp only [Option.bind_some]
      split at e
      · rename_i x hx
        simp only [Option.some.injEq] at e; subst e
        obtain ⟨v, h1, h2⟩ := bit_rel h hx
        simp only [bitV] at h2
        subst h2
        rw [h1]; rfl
      · rename_i hx
        simp only [Option.some.injEq] at e; subst e
        obtain ⟨v, h1, arr, rfl⟩ := bit_rel h hx
        rw [h1]; rfl
      · cases e
    · cases e

def isSrc (ops : Array Oper) (i : Nat) : Bool := ops.any fun o => match o.guard with | some (g, _) => g == i | none => false

def blit (b : Bool) : AV := .sv (.one (.val (.lit (.bool b))))

/-- the truth of register t is told -/
def decide1 (s : St) (t : Nat) (q : List Orc) (k : St → List Orc → Prop) : Prop :=
  match s.reg t with
  | .sv (.one (.val (.lit (.bool b)))) => match q with
    | .bool d :: q => b = d ∧ k (s.put (some t) (blit d)) q
    | .br l r :: _ => (b = true → k (s.put (some t) (blit true)) l) ∧ (b = false → k (s.put (some t) (blit false)) r)
    | _ => StuckB b
  | .tup [] => k s q
  | _ => k s q

theorem put_self (a : Act) (t : Nat) : a.put (some t) (a.tmps.getD t undef) = a := by
  simp only [Act.put]
  congr 1
  apply Array.ext_getElem?
  intro i
  rw [Array.getElem?_setIfInBounds]
  by_cases h : t = i
  · subst h
    by_cases hs : t < a.tmps.size
    · simp [hs]
    · simp [hs]
  · simp [h]

theorem decide1_rel (h : Rel E s ι a w) {t : Nat} {q : List Orc} {k : St → List Orc → Prop} (hd : decide1 s t q k) : ∃ s' q', k s' q' ∧ Rel E s' ι a w := by
  unfold decide1 at hd
  split at hd
  · rename_i b hb
    have hr := h.regs t
    rw [hb] at hr
    have hput : ∀ d, b = d → Rel E (s.put (some t) (blit d)) ι a w := by
      rintro d rfl
      have := Rel.put h (some t) (x := blit b) (v := a.tmps.getD t undef) hr
      rwa [put_self] at this
    split at hd
    · exact ⟨_, _, hd.2, hput _ hd.1⟩
    · cases b
      · exact ⟨_, _, hd.2 rfl, hput _ rfl⟩
      · exact ⟨_, _, hd.1 rfl, hput _ rfl⟩
    · cases hd
  · exact ⟨_, _, hd, h⟩
  · exact ⟨_, _, hd, h⟩

def decideI (src : Bool) (dst : Option Nat) (s : St) (q : List Orc) (k : St → List Orc → Prop) : Prop :=
  match src, dst with
  | true, some t => decide1 s t q k
  | _, _ => k s q

theorem decideI_rel (h : Rel E s ι a w) {src : Bool} {dst : Option Nat} {q : List Orc} {k : St → List Orc → Prop} (hd : decideI src dst s q k) : ∃ s' q', k s' q' ∧ Rel E s' ι a w := by
  unfold decideI at hd
  split at hd
  · exact decide1_rel h hd
  · exact ⟨_, _, hd, h⟩

/-! ### a region in its order -/
theorem undef_rel {ob : Nat → Ob} : AVRel w ι ob (.tup []) undef := ⟨#[], rfl, trivial⟩

end
end Go.Proofs.Ytamcedjjlokfhaa.Ab
