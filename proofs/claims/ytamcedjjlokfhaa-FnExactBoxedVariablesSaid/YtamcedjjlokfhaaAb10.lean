/- The abstract machine, part 10: arrays of a function's own: what is put into them goes over to them. No condition. -/
import Derived.Test.YtamcedjjlokfhaaAb9
namespace Go.Proofs.Ytamcedjjlokfhaa.Ab
open Go
set_option linter.unusedVariables false

def absorbOwn (s : St) : List AC → Option (List Cell × List Nat)
  | [] => some ([], [])
  | c :: r => match absorbOwn s r with
    | none => none
    | some (cs, ids) => match c with
      | .val (.lit v) => some (normLit v :: cs, ids)
      | .ref j => match s.obj j with
        | .arr true _ es => if ids.elem j then none else some (.list es :: cs, j :: ids)
        | _ => none
      | _ => none

def absorbShr : List AC → Option (List Cell)
  | [] => some []
  | c :: r => match absorbShr r with
    | none => none
    | some cs => match c with
      | .val (.lit v) => some (normLit v :: cs)
      | .val c => some (c :: cs)
      | _ => none

def killed (ids : List Nat) : List (Nat × Ob) := ids.map fun j => (j, .dead)

theorem setOb_length (s : St) (n : Nat) (o : Ob) : (s.setOb n o).objs.length = s.objs.length := by simp [St.setOb]

theorem updObs_length : ∀ (l : List (Nat × Ob)) (s : St), (s.updObs l).objs.length = s.objs.length
  | [], _ => rfl
  | (n, o) :: r, s => by rw [St.updObs, updObs_length r, setOb_length]

theorem updObs_regs : ∀ (l : List (Nat × Ob)) (s : St), (s.updObs l).regs = s.regs
  | [], _ => rfl
  | (n, o) :: r, s => by rw [St.updObs, updObs_regs r]; rfl

theorem updObs_m : ∀ (l : List (Nat × Ob)) (s : St), (s.updObs l).m = s.m
  | [], _ => rfl
  | (n, o) :: r, s => by rw [St.updObs, updObs_m r]; rfl

theorem obj_killed : ∀ (ids : List Nat) (s : St), (∀ j ∈ ids, j < s.objs.length) → ∀ i, (s.updObs (killed ids)).obj i = if i ∈ ids then .dead else s.obj i
  | [], s, _, i => by simp [killed, St.updObs]
  | j :: ids, s, h, i => by
    have := obj_killed ids (s.setOb j .dead) (fun k hk => by rw [setOb_length]; exact h k (List.mem_cons_of_mem _ hk)) i
    simp only [killed, List.map_cons, St.updObs] at this ⊢
    rw [this, obj_setOb (h j List.mem_cons_self)]
    by_cases h1 : i ∈ ids
    · simp [h1]
    · by_cases h2 : i = j
      · simp [h2]
      · simp [h1, h2]

section
variable {P : Program} {E : Ent} {s : St} {ι : Interp} {a : Act} {w : World}

def isArr (o : Ob) : Prop := ∃ own sz es, o = .arr own sz es

/-- an array of the function's own comes to be, at number n, out of what the arrays 'ids' had and of new memory -/
theorem Rel.makeArr (h : Rel E s ι a w) {n : Nat} (hf : s.obj n = .free) (hn : n < s.objs.length) {ids : List Nat} (hids : ∀ j ∈ ids, isArr (s.obj j)) {own : Bool} {sz : Nat} {es : List (List Cell)}
    {w' : World} {v' : Value} {F' : Nat → Prop} (hw : ∀ b, b < w.heap.size → (∀ j ∈ ids, ¬ ι.fp j b) → w'.heap[b]? = w.heap[b]?) (hsz : w.heap.size ≤ w'.heap.size) (os : w'.os = w.os) (out : w'.output = w.output)
    (hF : ∀ b, F' b → (∃ j ∈ ids, ι.fp j b) ∨ (w.heap.size ≤ b ∧ b < w'.heap.size)) (hr : ArrRel w' (Nest w' ι.G own) sz F' v' es) (hv1 : v'.oneCell' = true) :
    ∃ ι', Rel E ((s.updObs (killed ids)).setOb n (.arr own sz es)) ι' a w' ∧ SVRel w' ι' ((s.updObs (killed ids)).setOb n (.arr own sz es)).obj (.one (.ref n)) v' := by
  have hlen : ∀ j ∈ ids, j < s.objs.length := fun j hj => by
    obtain ⟨o, z, e, hjo⟩ := hids j hj
    exact lt_of_obj hjo (by simp)
  have hnin : n ∉ ids := fun hc => by
    obtain ⟨o, z, e, hjo⟩ := hids n hc
    rw [hf] at hjo; cases hjo
  have hobj : ∀ i, ((s.updObs (killed ids)).setOb n (.arr own sz es)).obj i = if i = n then .arr own sz es else if i ∈ ids then .dead else s.obj i := by
    intro i
    rw [obj_setOb (by rw [updObs_length]; exact hn), obj_killed ids s hlen]
  let ι' : Interp := { ι with sl := fun i => if i = n then v' else ι.sl i, fp := fun i b => if i = n then F' b else if i ∈ ids then False else ι.fp i b }
  have hother : ∀ i b, i ≠ n → i ∉ ids → ι.fp i b → w'.heap[b]? = w.heap[b]? := fun i b h1 h2 hb =>
    hw b (h.lt i b hb) fun j hj hjb => h.disj i j b (fun e => h2 (e ▸ hj)) hb hjb
  have hg : ∀ b, ι.G b → w'.heap[b]? = w.heap[b]? := fun b hb => hw b (h.glt b hb) fun j _ hjb => h.gfp j b hjb hb
  have hx : Ext (fun _ => True) w ι s.obj w' ι' ((s.updObs (killed ids)).setOb n (.arr own sz es)).obj := by
    refine ⟨fun b hb => ⟨hb, hg b hb⟩, fun i => ?_⟩
    rw [hobj i]
    by_cases h1 : i = n
    · subst h1; rw [if_pos rfl, hf]; trivial
    · rw [if_neg h1]
      by_cases h2 : i ∈ ids
      · rw [if_pos h2]
        obtain ⟨o, z, e, hjo⟩ := hids i h2
        rw [hjo]; trivial
      · rw [if_neg h2]
        cases e : s.obj i with
        | free => trivial
        | dead => trivial
        | box cs => rfl
        | arr own' sz' es' => exact ⟨by simp [ι', h1], rfl, fun _ b hb => ⟨.inl (by simp [ι', h1, h2, hb]), hother i b h1 h2 hb⟩⟩
        | map nn k f => exact ⟨rfl, rfl, rfl, fun _ b hb => ⟨.inl (by simp [ι', h1, h2, hb]), hother i b h1 h2 hb⟩⟩
  have hfp : ∀ i b, ι'.fp i b → (i = n ∧ F' b) ∨ (i ≠ n ∧ i ∉ ids ∧ ι.fp i b) := by
    intro i b hb
    simp only [ι'] at hb
    split at hb
    · exact .inl ⟨‹_›, hb⟩
    · split at hb
      · exact hb.elim
      · exact .inr ⟨‹_›, ‹_›, hb⟩
  have hF1 : ∀ b, F' b → ∀ i, i ≠ n → i ∉ ids → ¬ ι.fp i b := by
    intro b hb i h1 h2 hi
    rcases hF b hb with ⟨j, hj, hjb⟩ | ⟨hge, _⟩
    · exact h.disj i j b (fun e => h2 (e ▸ hj)) hi hjb
    · have := h.lt i b hi; omega
  refine ⟨ι', Rel.step h hx (fun t => .inl ⟨?_, fun _ _ _ _ => trivial⟩) ?_ (updObs_m _ _) (fun i => ?_) ?_ ?_ ?_ ?_ ?_ (fun b hb hM => ?_) hsz os out, ⟨?_, fun own2 sz2 es2 _ => by simp [ι']⟩, fun _ => hv1⟩
  · show ((s.updObs (killed ids)).setOb n _).regs.getD t _ = _
    simp only [St.setOb, updObs_regs]; rfl
  · simp only [St.setOb, updObs_regs]
  · rw [hobj i]
    by_cases h1 : i = n
    · subst h1; right
      rw [if_pos rfl]
      have e1 : ι'.fp i = F' := by funext b; simp [ι']
      have e2 : ι'.sl i = v' := by simp [ι']
      show ArrRel w' (Nest w' ι'.G own) sz (ι'.fp i) (ι'.sl i) es
      rw [e1, e2]; exact hr
    · rw [if_neg h1]
      by_cases h2 : i ∈ ids
      · right
        rw [if_pos h2]
        intro b hb
        rcases hfp i b hb with ⟨h3, _⟩ | ⟨_, h3, _⟩
        · exact h1 h3
        · exact h3 h2
      · left
        rw [if_neg h2]
        exact ⟨rfl, ⟨rfl, by simp [ι', h1], fun b => by simp [ι', h1, h2], fun b hb => hother i b h1 h2 hb⟩, fun _ _ _ _ => trivial⟩
  · intro i j b hij hi hj
    rcases hfp i b hi with ⟨rfl, h1⟩ | ⟨h1, h2, h3⟩ <;> rcases hfp j b hj with ⟨rfl, k1⟩ | ⟨k1, k2, k3⟩
    · exact hij rfl
    · exact hF1 b h1 j k1 k2 k3
    · exact hF1 b k1 i h1 h2 h3
    · exact h.disj i j b hij h3 k3
  · intro i b hi hgb
    rcases hfp i b hi with ⟨rfl, h1⟩ | ⟨h1, h2, h3⟩
    · rcases hF b h1 with ⟨j, _, hjb⟩ | ⟨hge, _⟩
      · exact h.gfp j b hjb hgb
      · have := h.glt b hgb; omega
    · exact h.gfp i b h3 hgb
  · intro i b hi
    rcases hfp i b hi with ⟨rfl, h1⟩ | ⟨h1, h2, h3⟩
    · rcases hF b h1 with ⟨j, _, hjb⟩ | ⟨hge, _⟩
      · exact h.own j b hjb
      · exact .inr (Nat.le_trans h.size hge)
    · exact h.own i b h3
  · intro i b hi
    rcases hfp i b hi with ⟨rfl, h1⟩ | ⟨h1, h2, h3⟩
    · rcases hF b h1 with ⟨j, _, hjb⟩ | ⟨_, hlt⟩
      · have := h.lt j b hjb; omega
      · exact hlt
    · have := h.lt i b h3; omega
  · intro b hb
    have := h.glt b hb; omega
  · refine hw b (Nat.lt_of_lt_of_le hb h.size) fun j _ hjb => ?_
    rcases h.own j b hjb with h1 | h1
    · exact hM h1
    · omega
  · unfold notFree; rw [hobj n, if_pos rfl]; trivial

/-! ### what goes in -/
theorem normLit_own {F : Nat → Prop} {v : Value} (h : litOK v) : OwnC w F v (normLit v) := by
  unfold normLit
  split
  · exact .arr (es := []) (xs := []) (Fs := fun _ _ => False) (e := 0) (sz := 0) (World.ownsRow_nil w 0 0 0) (by simp) (by simp [Value.ownBlock]) (by simp) (by simp) (by simp) (by simp) (fun _ => ⟨none, rfl⟩)
  · exact .lit h

theorem normLit_rd {G : Nat → Prop} {v : Value} (h : litOK v) : Rd w G v (normLit v) := by
  unfold normLit
  split
  · exact .nil
  · exact .lit h

theorem absorbShr_ok {ob : Nat → Ob} : ∀ {acs : List AC} {vs : List Value} {cs : List Cell}, absorbShr acs = some cs → All2 (CRel w ι ob) acs vs → All2 (Rd w ι.G) vs cs
  | [], [], cs, e, _ => by simp only [absorbShr, Option.some.injEq] at e; subst e; trivial
  | c :: acs, v :: vs, cs, e, h => by
    simp only [absorbShr] at e
    split at e
    · cases e
    · rename_i cs' hcs
      have ih := absorbShr_ok hcs h.2
      split at e
      · rename_i u
        simp only [Option.some.injEq] at e; subst e
        obtain ⟨rfl, hk⟩ := Rd.lit_inv (show Rd w ι.G v _ from h.1.1)
        exact ⟨normLit_rd hk, ih⟩
      · rename_i c' hc'
        simp only [Option.some.injEq] at e; subst e
        exact ⟨h.1.1, ih⟩
      · cases e
  | [], _ :: _, _, _, h => h.elim
  | _ :: _, [], _, _, h => h.elim

theorem absorbOwn_ok (h : Rel E s ι a w) : ∀ {acs : List AC} {vs : List Value} {cs : List Cell} {ids : List Nat}, absorbOwn s acs = some (cs, ids) → All2 (CRel w ι s.obj) acs vs →
    (∀ j ∈ ids, isArr (s.obj j)) ∧ cs.length = acs.length ∧ ∃ Fs : Nat → Nat → Prop, (∀ k b, Fs k b → ∃ j ∈ ids, ι.fp j b) ∧ (∀ k k' b, k ≠ k' → Fs k b → ¬ Fs k' b) ∧
      ∀ (k : Nat) (v : Value) (c : Cell), vs[k]? = some v → cs[k]? = some c → OwnC w (Fs k) v c
  | [], [], cs, ids, e, _ => by
    simp only [absorbOwn, Option.some.injEq, Prod.mk.injEq] at e
    obtain ⟨rfl, rfl⟩ := e
    exact ⟨by simp, rfl, fun _ _ => False, by simp, by simp, by simp⟩
  | c :: acs, v :: vs, cs, ids, e, hh => by
    simp only [absorbOwn] at e
    split at e
    · cases e
    · rename_i cs' ids' hcs
      obtain ⟨i1, i2, Fs, i3, i4, i5⟩ := absorbOwn_ok h hcs hh.2
      split at e
      · rename_i u
        simp only [Option.some.injEq, Prod.mk.injEq] at e
        obtain ⟨rfl, rfl⟩ := e
        obtain ⟨rfl, hk⟩ := Rd.lit_inv (show Rd w ι.G v _ from hh.1.1)
        refine ⟨i1, by simp [i2], fun k b => match k with | 0 => False | k + 1 => Fs k b, ?_, ?_, ?_⟩
        · intro k b hb
          cases k with
          | zero => exact hb.elim
          | succ k => exact i3 k b hb
        · intro k k' b hne hb hb'
          cases k with
          | zero => exact hb.elim
          | succ k => cases k' with
            | zero => exact hb'.elim
            | succ k' => exact i4 k k' b (fun e => hne (by rw [e])) hb hb'
        · intro k x y hx hy
          cases k with
          | zero => simp at hx hy; subst hx; subst hy; exact normLit_own hk
          | succ k => simp at hx hy; exact i5 k x y hx hy
      · rename_i j
        split at e
        · rename_i sz es hob
          split at e
          · cases e
          · rename_i hnin
            simp only [Option.some.injEq, Prod.mk.injEq] at e
            obtain ⟨rfl, rfl⟩ := e
            have hnin' : j ∉ ids' := by simpa using hnin
            have hor := h.objs j
            rw [hob] at hor
            have hv := hh.1.1.2 _ _ _ hob
            refine ⟨?_, by simp [i2], fun k b => match k with | 0 => ι.fp j b | k + 1 => Fs k b, ?_, ?_, ?_⟩
            · intro i hi
              rcases List.mem_cons.1 hi with rfl | hi
              · exact ⟨_, _, _, hob⟩
              · exact i1 i hi
            · intro k b hb
              cases k with
              | zero => exact ⟨j, List.mem_cons_self, hb⟩
              | succ k => obtain ⟨i, hi, hib⟩ := i3 k b hb; exact ⟨i, List.mem_cons_of_mem _ hi, hib⟩
            · have key : ∀ k b, ι.fp j b → ¬ Fs k b := fun k b hj hb => by
                obtain ⟨i, hi, hib⟩ := i3 k b hb
                exact h.disj j i b (fun e => hnin' (e ▸ hi)) hj hib
              intro k k' b hne hb hb'
              cases k with
              | zero => cases k' with
                | zero => exact hne rfl
                | succ k' => exact key k' b hb hb'
              | succ k => cases k' with
                | zero => exact key k b hb' hb
                | succ k' => exact i4 k k' b (fun e => hne (by rw [e])) hb hb'
            · intro k x y hx hy
              cases k with
              | zero => simp at hx hy; subst hx; subst hy; rw [hv]; exact ArrRel.own hor
              | succ k => simp at hx hy; exact i5 k x y hx hy
        · cases e
      · cases e
  | [], _ :: _, _, _, _, h => h.elim
  | _ :: _, [], _, _, _, h => h.elim

end
end Go.Proofs.Ytamcedjjlokfhaa.Ab
