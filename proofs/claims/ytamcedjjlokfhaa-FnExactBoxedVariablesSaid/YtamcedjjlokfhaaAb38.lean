/- The abstract machine, part 38: an array or a map gets another number; a nil map becomes a map of one's own that holds nothing. No condition. -/
import Derived.Test.YtamcedjjlokfhaaAb21
namespace Go.Proofs.Ytamcedjjlokfhaa.Ab
open Go
set_option linter.unusedVariables false

def mvf (id n : Nat) (i : Nat) : Nat := match Nat.beq i id with | true => n | false => i

theorem mvf_same (id n : Nat) : mvf id n id = n := by unfold mvf; rw [Nat.beq_refl]
theorem mvf_other {id n i : Nat} (h : i ≠ id) : mvf id n i = i := by
  unfold mvf
  split
  · rename_i hb; exact (h (Nat.eq_of_beq_eq_true hb)).elim
  · rfl

def movable : Ob → Bool
  | .arr .. | .map .. => true
  | _ => false

def St.move (s : St) (id : Nat) : St :=
  { s with regs := s.regs.map (AV.ren (mvf id s.objs.length)), objs := (s.objs.map (Ob.ren (mvf id s.objs.length))).set id .dead ++ [s.obj id] }

def moveSt (s : St) (id : Nat) : Option St := match movable (s.obj id) with
  | true => some (s.move id)
  | false => none

section
variable {P : Program} {E : Ent} {s : St} {ι : Interp} {a : Act} {w : World}

theorem move_obj {id : Nat} (hid : id < s.objs.length) (i : Nat) : (s.move id).obj i = if i = s.objs.length then s.obj id else if i = id then .dead else (s.obj i).ren (mvf id s.objs.length) := by
  show ((s.objs.map (Ob.ren (mvf id s.objs.length))).set id .dead ++ [s.obj id]).getD i .free = _
  simp only [List.getD_eq_getElem?_getD]
  by_cases h1 : i = s.objs.length
  · rw [if_pos h1, List.getElem?_append_right (by simp [h1])]
    simp [h1]
  · rw [if_neg h1]
    by_cases h2 : i < s.objs.length
    · rw [List.getElem?_append_left (by simpa using h2), List.getElem?_set]
      by_cases h3 : i = id
      · subst h3; simp [h2]
      · rw [if_neg h3]
        simp only [Ne.symm h3, if_false, List.getElem?_map, St.obj, List.getD_eq_getElem?_getD]
        rw [List.getElem?_eq_getElem h2]; rfl
    · rw [List.getElem?_append_right (by simp; omega)]
      have h3 : i ≠ id := by omega
      rw [if_neg h3]
      have : s.obj i = .free := by simp [St.obj, List.getElem?_eq_none (Nat.le_of_not_lt h2)]
      rw [this]
      have : ([s.obj id] : List Ob)[i - ((s.objs.map (Ob.ren (mvf id s.objs.length))).set id .dead).length]? = none := by
        rw [List.getElem?_eq_none_iff]; simp; omega
      rw [this]; rfl

theorem Rel.move (h : Rel E s ι a w) {id : Nat} (hm : movable (s.obj id) = true) : ∃ ι', Rel E (s.move id) ι' a w := by
  have hid : id < s.objs.length := lt_of_obj (o := s.obj id) rfl (fun e => by rw [e] at hm; cases hm)
  have hne : id ≠ s.objs.length := by omega
  have hren : (s.obj id).ren (mvf id s.objs.length) = s.obj id := by
    cases e : s.obj id <;> rw [e] at hm <;> first | rfl | cases hm
  have hfree : ∀ b, ¬ ι.fp s.objs.length b := by
    have := h.objs s.objs.length
    have e : s.obj s.objs.length = .free := by simp [St.obj]
    rw [e] at this; exact this
  let ι' : Interp := { G := ι.G, blk := fun i => if i = s.objs.length then ι.blk id else ι.blk i, sl := fun i => if i = s.objs.length then ι.sl id else ι.sl i,
                       fp := fun i b => if i = s.objs.length then ι.fp id b else if i = id then False else ι.fp i b }
  have htr : Tr (mvf id s.objs.length) ι s.obj ι' (s.move id).obj := by
    refine ⟨fun j hj => ?_⟩
    rw [move_obj hid]
    by_cases h1 : j = id
    · subst h1
      rw [mvf_same, if_pos rfl, hren]
      exact ⟨rfl, by simp [ι'], by simp [ι'], fun b => by simp [ι']⟩
    · rw [mvf_other h1]
      have h2 : j ≠ s.objs.length := fun e => by
        unfold notFree at hj
        rw [e] at hj
        simp [St.obj] at hj
      rw [if_neg h2, if_neg h1]
      exact ⟨rfl, by simp [ι', h2], by simp [ι', h2], fun b => by simp [ι', h1, h2]⟩
  have hfp : ∀ i b, ι'.fp i b → (i = s.objs.length ∧ ι.fp id b) ∨ (i ≠ s.objs.length ∧ i ≠ id ∧ ι.fp i b) := by
    intro i b hb
    simp only [ι'] at hb
    split at hb
    · exact .inl ⟨‹_›, hb⟩
    · split at hb
      · exact hb.elim
      · exact .inr ⟨‹_›, ‹_›, hb⟩
  have hold : ∀ i b, ι'.fp i b → ∃ k, ι.fp k b := fun i b hb => (hfp i b hb).elim (fun h => ⟨id, h.2⟩) fun h => ⟨i, h.2.2⟩
  refine ⟨ι', ?_⟩
  refine { len := by simp [St.move, h.len], defers := h.defers, regs := fun t => ?_, objs := fun i => ?_, disj := ?_, gfp := ?_, own := ?_, lt := ?_, glt := h.glt, frame := h.frame, size := h.size, os := h.os, out := h.out, ent := fun i => ?_, gg := h.gg, gown := h.gown, ment := h.ment }
  · have e : (s.move id).reg t = (s.reg t).ren (mvf id s.objs.length) := by
      show (s.regs.map (AV.ren (mvf id s.objs.length))).getD t _ = _
      simp only [List.getD_eq_getElem?_getD, List.getElem?_map, St.reg]
      cases s.regs[t]? <;> rfl
    rw [e]
    exact AVRel.tr htr (.inr fun _ hb => hb) (h.regs t)
  · by_cases h1 : i = s.objs.length
    · have := ObRel.tr htr (j := id) (by unfold notFree; cases e : s.obj id <;> rw [e] at hm <;> first | trivial | cases hm) (.inr fun _ hb => hb) (h.objs id)
      rw [mvf_same, ← h1] at this; exact this
    · by_cases h2 : i = id
      · rw [move_obj hid, if_neg h1, if_pos h2, h2]
        intro b hb
        simp [ι', hne] at hb
      · by_cases h3 : s.obj i = .free
        · have e : (s.move id).obj i = .free := by rw [move_obj hid, if_neg h1, if_neg h2, h3]; rfl
          rw [e]
          have := h.objs i
          rw [h3] at this
          intro b hb
          simp only [ι', if_neg h1, if_neg h2] at hb
          exact this b hb
        · have := ObRel.tr htr (j := i) (by unfold notFree; cases e : s.obj i <;> first | trivial | exact (h3 e).elim) (.inr fun _ hb => hb) (h.objs i)
          rw [mvf_other h2] at this; exact this
  · intro i j b hij hi hj
    rcases hfp i b hi with ⟨rfl, f1⟩ | ⟨n1, n2, f1⟩ <;> rcases hfp j b hj with ⟨rfl, f2⟩ | ⟨m1, m2, f2⟩
    · exact hij rfl
    · exact h.disj id j b (fun e => m2 e.symm) f1 f2
    · exact h.disj i id b n2 f1 f2
    · exact h.disj i j b hij f1 f2
  · intro i b hb hg
    obtain ⟨k, hk⟩ := hold i b hb
    exact h.gfp k b hk hg
  · intro i b hb
    obtain ⟨k, hk⟩ := hold i b hb
    exact h.own k b hk
  · intro i b hb
    obtain ⟨k, hk⟩ := hold i b hb
    exact h.lt k b hk
  · refine (h.ent i).trans (w' := w) (ι' := ι') (K := False) ?_
    rw [move_obj hid]
    by_cases h1 : i = s.objs.length
    · have e : s.obj i = .free := by rw [h1]; simp [St.obj]
      rw [e]; trivial
    · rw [if_neg h1]
      by_cases h2 : i = id
      · rw [if_pos h2, h2]
        cases e : s.obj id <;> rw [e] at hm <;> first | trivial | cases hm
      · rw [if_neg h2]
        cases e : s.obj i with
        | free => trivial
        | dead => trivial
        | box cs => show ι'.blk i = ι.blk i; simp [ι', h1]
        | arr o z x => exact ⟨by simp [ι', h1], rfl, fun k => k.elim⟩
        | map nn k f => exact ⟨by simp [ι', h1], rfl, rfl, fun k => k.elim⟩

theorem moveSt_rel (h : Rel E s ι a w) {id : Nat} {s' : St} (e : moveSt s id = some s') : ∃ ι', Rel E s' ι' a w := by
  unfold moveSt at e
  split at e
  · rename_i hm
    simp only [Option.some.injEq] at e; subst e
    exact h.move hm
  · cases e

theorem Rel.nilMap (h : Rel E s ι a w) {k : MK} (hk : okMK k = true) : ∃ ι', Rel E ((s.grow 1).setOb s.objs.length (.map true k (emptyF k))) ι' a w ∧
    SVRel w ι' ((s.grow 1).setOb s.objs.length (.map true k (emptyF k))).obj (.one (.mref s.objs.length)) (.map none) := by
  have hroom := room_grow s 1 s.objs.length (Nat.le_refl _) (by omega)
  have hf := (h.grow 1).objs s.objs.length
  rw [hroom.1] at hf
  refine ⟨ι, Rel.fresh (h.grow 1) hroom.1 hroom.2 _ rfl (fun i hi => ⟨rfl, rfl, fun b => Iff.rfl⟩) (fun b hb => (hf b hb).elim) (fun _ _ => rfl) (Nat.le_refl _) rfl rfl ?_, ⟨?_, fun nn k' f' e => ?_⟩, fun _ => rfl⟩
  · exact ⟨hf, fun key _ => emptyF_ok hk key⟩
  · unfold notFree; rw [obj_setOb hroom.2, if_pos rfl]; trivial
  · rw [obj_setOb hroom.2, if_pos rfl] at e
    cases e; rfl

def nilMReg (s : St) (t : Nat) (k : MK) : Option St :=
  match s.reg t with
  | .sv (.one (.val (.lit (.map none)))) => if okMK k = true then some (((s.grow 1).setOb s.objs.length (.map true k (emptyF k))).put (some t) (.sv (.one (.mref s.objs.length)))) else none
  | _ => none

theorem nilMReg_rel (h : Rel E s ι a w) {t : Nat} {k : MK} {s' : St} (e : nilMReg s t k = some s') : ∃ ι', Rel E s' ι' a w := by
  unfold nilMReg at e
  split at e
  · rename_i ht
    split at e
    · rename_i hk
      simp only [Option.some.injEq] at e; subst e
      have hr := h.regs t
      rw [ht] at hr
      have hv := (Rd.lit_inv (show Rd w ι.G _ (.lit (.map none)) from hr.1)).1
      obtain ⟨ι', h1, h2⟩ := h.nilMap hk
      have := Rel.put h1 (some t) (x := .sv (.one (.mref s.objs.length))) (v := a.tmps.getD t undef) (by rw [hv]; exact h2)
      rw [put_self] at this
      exact ⟨ι', this⟩
    · cases e
  · cases e

def nilMBox (s : St) (id j : Nat) (k : MK) : Option St :=
  match s.obj id with
  | .box cs => match cs[j]? with
    | some (.val (.lit (.map none))) => if okMK k = true then some (((s.grow 1).setOb s.objs.length (.map true k (emptyF k))).setOb id (.box (cs.set j (.mref s.objs.length)))) else none
    | _ => none
  | _ => none

theorem nilMBox_rel (h : Rel E s ι a w) {id j : Nat} {k : MK} {s' : St} (e : nilMBox s id j k = some s') : ∃ ι', Rel E s' ι' a w := by
  unfold nilMBox at e
  split at e
  · rename_i cs ho
    split at e
    · rename_i hj
      split at e
      · rename_i hk
        simp only [Option.some.injEq] at e; subst e
        have hlt : id < s.objs.length := lt_of_obj ho (by simp)
        obtain ⟨ι', h1, h2⟩ := h.nilMap hk
        refine ⟨ι', Rel.recell h1 ?_ hj fun v hv => ?_⟩
        · rw [obj_setOb (by simp [St.grow])]
          rw [if_neg (by omega), obj_grow]; exact ho
        · have := (Rd.lit_inv (show Rd w ι'.G _ (.lit (.map none)) from hv.1)).1
          rw [this]; exact h2.1
      · cases e
    · cases e
  · cases e

end
end Go.Proofs.Ytamcedjjlokfhaa.Ab
