/- The abstract machine, part 29: what an operation of a region that draws its order may know is true of every state that it may meet. No condition. -/
import Derived.Test.YtamcedjjlokfhaaAb28
namespace Go.Proofs.Ytamcedjjlokfhaa.Ab
open Go
set_option linter.unusedVariables false

theorem touch_mono {J ids : List Nat} {x : AV} (h : ∀ i ∈ J, i ∈ ids) (k : x.touch ids = false) : x.touch J = false := by
  cases J with
  | nil => rfl
  | cons j J =>
    have hn : ids ≠ [] := fun e => by have := h j List.mem_cons_self; rw [e] at this; cases this
    unfold AV.touch at k ⊢
    cases ids with
    | nil => exact absurd rfl hn
    | cons i ids =>
      simp only at k ⊢
      rw [List.any_eq_false] at k ⊢
      intro c hc hk
      refine k c hc ?_
      unfold AC.touch at hk ⊢
      split at hk
      · rename_i id e
        have : id ∈ j :: J := by simpa using hk
        simpa using h id this
      · cases hk

theorem touch_all {J : List Nat} {x : AV} (h : ∀ i ∈ J, x.touch [i] = false) : x.touch J = false := by
  cases J with
  | nil => rfl
  | cons j J =>
    unfold AV.touch
    simp only
    rw [List.any_eq_false]
    intro c hc hk
    unfold AC.touch at hk
    split at hk
    · rename_i id e
      have hm : id ∈ j :: J := by simpa using hk
      have := h id hm
      unfold AV.touch at this
      simp only at this
      rw [List.any_eq_false] at this
      refine this c hc ?_
      unfold AC.touch; rw [e]; simp
    · cases hk

theorem otouch_mono {J ids : List Nat} {x : Ob} (h : ∀ i ∈ J, i ∈ ids) (k : x.touch ids = false) : x.touch J = false := by
  cases J with
  | nil => rfl
  | cons j J =>
    have hn : ids ≠ [] := fun e => by have := h j List.mem_cons_self; rw [e] at this; cases this
    unfold Ob.touch at k ⊢
    cases ids with
    | nil => exact absurd rfl hn
    | cons i ids =>
      simp only at k ⊢
      rw [List.any_eq_false] at k ⊢
      intro c hc hk
      refine k c hc ?_
      unfold AC.touch at hk ⊢
      split at hk
      · rename_i id e
        have : id ∈ j :: J := by simpa using hk
        simpa using h id this
      · cases hk

theorem otouch_all {J : List Nat} {x : Ob} (h : ∀ i ∈ J, x.touch [i] = false) : x.touch J = false := by
  cases J with
  | nil => rfl
  | cons j J =>
    unfold Ob.touch
    simp only
    rw [List.any_eq_false]
    intro c hc hk
    unfold AC.touch at hk
    split at hk
    · rename_i id e
      have hm : id ∈ j :: J := by simpa using hk
      have := h id hm
      unfold Ob.touch at this
      simp only at this
      rw [List.any_eq_false] at this
      refine this c hc ?_
      unfold AC.touch; rw [e]; simp
    · cases hk

theorem invAC_append (a b : List Nat) (c : AC) : invAC a (invAC b c) = invAC (b ++ a) c := by
  have ht : ∀ l, AC.top.touch l = false := fun _ => rfl
  have happ : c.touch (b ++ a) = (c.touch b || c.touch a) := by
    unfold AC.touch
    cases c.src with
    | none => rfl
    | some id => simp only [List.elem_eq_contains]; rw [Bool.eq_iff_iff]; simp
  by_cases ha : c.touch a = true <;> by_cases hb : c.touch b = true <;> simp [invAC_eq, happ, ha, hb, ht]
theorem invSV_append (a b : List Nat) (x : SV) : invSV a (invSV b x) = invSV (b ++ a) x := by
  cases x with
  | one c => simp [invSV, invAC_append a b]
  | agg cs => simp only [invSV, List.map_map]; congr 1; exact List.map_congr_left fun c _ => invAC_append a b c
theorem invAV_append (a b : List Nat) (x : AV) : invAV a (invAV b x) = invAV (b ++ a) x := by
  cases x with
  | sv x => simp [invAV, invSV_append a b]
  | tup l => simp only [invAV, List.map_map]; congr 1; exact List.map_congr_left fun c _ => invSV_append a b c
theorem invOb_append (a b : List Nat) (x : Ob) : invOb a (invOb b x) = invOb (b ++ a) x := by
  cases x with
  | box cs => simp only [invOb, List.map_map]; congr 1; exact List.map_congr_left fun c _ => invAC_append a b c
  | _ => rfl

/-! ### one effect, slot by slot -/
theorem eff_m (s : St) (d : Eff) : (s.eff d).m = s.m := by
  rw [eff_eq]
  have h1 : ∀ (s : St) (dst : Option Nat) (v : AV), (s.put dst v).m = s.m := fun s dst v => by cases dst <;> rfl
  rw [h1, updObs_m, inval_eq]
theorem eff_rlen (s : St) (d : Eff) : (s.eff d).regs.length = s.regs.length := by
  rw [eff_eq, inval_eq]
  cases d.dst with
  | none => simp [St.put, updObs_regs]
  | some t => simp [St.put, updObs_regs]
theorem put_objs (s : St) (dst : Option Nat) (v : AV) : (s.put dst v).objs = s.objs := by cases dst <;> rfl
theorem eff_olen (s : St) (d : Eff) : (s.eff d).objs.length = s.objs.length := by
  rw [eff_eq, inval_eq, put_objs, updObs_length]; simp

theorem put_reg (s : St) (dst : Option Nat) (v : AV) (t : Nat) : (s.put dst v).reg t = if dst = some t ∧ t < s.regs.length then v else s.reg t := by
  cases dst with
  | none => simp [St.put]
  | some d =>
    simp only [St.put, St.reg, List.getD_eq_getElem?_getD, List.getElem?_set, Option.some.injEq]
    by_cases hd : d = t
    · subst hd
      by_cases hl : d < s.regs.length
      · simp [hl]
      · simp [hl]
    · simp [hd]

theorem reg_map (s : St) (f : AV → AV) (hf : f atop = atop) (t : Nat) : ({ s with regs := s.regs.map f } : St).reg t = f (s.reg t) := by
  simp only [St.reg, List.getD_eq_getElem?_getD, List.getElem?_map]
  cases s.regs[t]? with
  | none => exact hf.symm
  | some x => rfl

theorem inval_reg (s : St) (ids : List Nat) (t : Nat) : (s.inval ids).reg t = invAV ids (s.reg t) := by
  rw [inval_eq]
  exact reg_map s (invAV ids) rfl t
theorem inval_ob (s : St) (ids : List Nat) (i : Nat) : (s.inval ids).obj i = invOb ids (s.obj i) := by
  rw [inval_eq]
  simp only [St.obj, List.getD_eq_getElem?_getD, List.getElem?_map]
  cases s.objs[i]? <;> rfl

theorem eff_reg (s : St) (d : Eff) (t : Nat) : (s.eff d).reg t = if d.dst = some t ∧ t < s.regs.length then d.val else invAV d.r.inv (s.reg t) := by
  rw [eff_eq, put_reg]
  have h1 : ((s.inval d.r.inv).updObs d.obs).regs.length = s.regs.length := by rw [updObs_regs, inval_eq]; simp
  have h2 : ((s.inval d.r.inv).updObs d.obs).reg t = invAV d.r.inv (s.reg t) := by
    rw [← inval_reg]; simp only [St.reg, updObs_regs]
  rw [h1, h2]

theorem updObs_obj2 : ∀ (l : List (Nat × Ob)) (s s' : St) (x : Nat), s.objs.length = s'.objs.length →
    (∃ o, (x, o) ∈ l ∧ (s.updObs l).obj x = o ∧ (s'.updObs l).obj x = o) ∨ ((s.updObs l).obj x = s.obj x ∧ (s'.updObs l).obj x = s'.obj x)
  | [], s, s', x, _ => .inr ⟨rfl, rfl⟩
  | (n, o) :: l, s, s', x, hl => by
    rw [St.updObs, St.updObs]
    have hl' : (s.setOb n o).objs.length = (s'.setOb n o).objs.length := by simp [St.setOb, hl]
    rcases updObs_obj2 l (s.setOb n o) (s'.setOb n o) x hl' with ⟨o1, h1, h2, h3⟩ | ⟨h1, h2⟩
    · exact .inl ⟨o1, List.mem_cons_of_mem _ h1, h2, h3⟩
    · by_cases hx : x = n
      · subst hx
        by_cases hlt : x < s.objs.length
        · left
          refine ⟨o, List.mem_cons_self, ?_, ?_⟩
          · rw [h1, obj_setOb hlt, if_pos rfl]
          · rw [h2, obj_setOb (by omega), if_pos rfl]
        · right
          have e1 : s.setOb x o = s := by simp only [St.setOb]; rw [List.set_eq_of_length_le (by omega)]
          have e2 : s'.setOb x o = s' := by simp only [St.setOb]; rw [List.set_eq_of_length_le (by omega)]
          rw [e1] at h1 ⊢; rw [e2] at h2 ⊢
          exact ⟨h1, h2⟩
      · right
        have e : ∀ (s : St), (s.setOb n o).obj x = s.obj x := fun s => by
          simp only [St.setOb, St.obj, List.getD_eq_getElem?_getD, List.getElem?_set, if_neg (Ne.symm hx)]
        exact ⟨h1.trans (e s), h2.trans (e s')⟩

theorem eff_obj2 (s s' : St) (d : Eff) (x : Nat) (hl : s.objs.length = s'.objs.length) :
    (∃ o, (x, o) ∈ d.obs ∧ (s.eff d).obj x = o ∧ (s'.eff d).obj x = o) ∨ ((s.eff d).obj x = invOb d.r.inv (s.obj x) ∧ (s'.eff d).obj x = invOb d.r.inv (s'.obj x)) := by
  rw [eff_eq, eff_eq, St.obj_put, St.obj_put, ← inval_ob, ← inval_ob]
  exact updObs_obj2 d.obs _ _ x (by rw [inval_eq, inval_eq]; simpa using hl)

/-! ### the two runs -/
structure Two (Dt Ox : Nat → Prop) (J : List Nat) (a t : St) : Prop where
  rlen : a.regs.length = t.regs.length
  olen : a.objs.length = t.objs.length
  reg : ∀ x, t.reg x = invAV J (a.reg x) ∨ Dt x
  obj : ∀ x, t.obj x = invOb J (a.obj x) ∨ Ox x

/-- what u has made invalid is not in what d has laid -/
def Clean (u d : Eff) : Prop := ∀ i ∈ u.r.inv, d.val.touch [i] = false ∧ ∀ p ∈ d.obs, p.2.touch [i] = false

theorem effs_two {fA fT : Nat → Bool} (hsub : ∀ j, fA j = true → fT j = true) {Dt Ox Jx : Nat → Prop} :
    ∀ (ds : List Eff) (a t : St) (J : List Nat), (∀ i ∈ J, Jx i) → Two Dt Ox J a t →
      (∀ d ∈ ds, fA d.i = true → ∀ i ∈ J, d.val.touch [i] = false ∧ ∀ p ∈ d.obs, p.2.touch [i] = false) →
      ds.Pairwise (fun u d => fT u.i = true → fA u.i = false → fA d.i = true → Clean u d) →
      (∀ d ∈ ds, fT d.i = true → fA d.i = false → (∀ x, d.dst = some x → Dt x) ∧ (∀ p ∈ d.obs, Ox p.1) ∧ ∀ i ∈ d.r.inv, Jx i) →
      ∃ J', (∀ i ∈ J', Jx i) ∧ Two Dt Ox J' (effs fA a ds) (effs fT t ds)
  | [], a, t, J, hJ, h, _, _, _ => ⟨J, hJ, h⟩
  | d :: ds, a, t, J, hJ, h, hA, hP, hU => by
    have hA' := fun e he => hA e (List.mem_cons_of_mem _ he)
    have hU' := fun e he => hU e (List.mem_cons_of_mem _ he)
    obtain ⟨hP1, hP2⟩ := List.pairwise_cons.1 hP
    simp only [effs]
    cases ha : fA d.i with
    | true =>
      rw [hsub _ ha]
      simp only
      have hd := hA d List.mem_cons_self ha
      refine effs_two hsub ds _ _ J hJ ⟨by rw [eff_rlen, eff_rlen, h.rlen], by rw [eff_olen, eff_olen, h.olen], fun x => ?_, fun x => ?_⟩ hA' hP2 hU'
      · rw [eff_reg, eff_reg, ← h.rlen]
        by_cases hx : d.dst = some x ∧ x < a.regs.length
        · left
          rw [if_pos hx, if_pos hx]
          exact (invAV_same (touch_all fun i hi => (hd i hi).1)).symm
        · rw [if_neg hx, if_neg hx]
          refine (h.reg x).imp (fun e => ?_) id
          rw [e, invAV_comm]
      · rcases eff_obj2 a t d x h.olen with ⟨o, ho, e1, e2⟩ | ⟨e1, e2⟩
        · left
          rw [e1, e2]
          exact (invOb_same (otouch_all fun i hi => (hd i hi).2 (x, o) ho)).symm
        · rw [e1, e2]
          refine (h.obj x).imp (fun e => ?_) id
          rw [e, invOb_comm]
    | false =>
      simp only
      cases ht : fT d.i with
      | false => exact effs_two hsub ds a t J hJ h hA' hP2 hU'
      | true =>
        simp only
        obtain ⟨h1, h2, h3⟩ := hU d List.mem_cons_self ht ha
        refine effs_two hsub ds a _ (J ++ d.r.inv) (fun i hi => (List.mem_append.1 hi).elim (hJ i) (h3 i)) ⟨by rw [eff_rlen, h.rlen], by rw [eff_olen, h.olen], fun x => ?_, fun x => ?_⟩
          (fun e he hae i hi => (List.mem_append.1 hi).elim (hA' e he hae i) (hP1 e he ht ha hae i)) hP2 hU'
        · rw [eff_reg]
          by_cases hx : d.dst = some x ∧ x < t.regs.length
          · exact .inr (h1 x hx.1)
          · rw [if_neg hx]
            refine (h.reg x).imp (fun e => ?_) id
            rw [e, invAV_append]
        · rcases eff_obj2 t t d x rfl with ⟨o, ho, e1, e2⟩ | ⟨e1, e2⟩
          · exact .inr (h2 (x, o) ho)
          · rw [e1]
            refine (h.obj x).imp (fun e => ?_) id
            rw [e, invOb_append]

theorem Clean.of_apart {u d : Eff} (h : u.apart d = true) : Clean u d := by
  simp only [Eff.apart, Bool.and_eq_true, Bool.not_eq_true', List.all_eq_true] at h
  obtain ⟨⟨⟨⟨h1, h2⟩, h3⟩, h4⟩, h5⟩ := h
  intro x hx
  have hm : ∀ k ∈ [x], k ∈ u.r.inv := fun k hk => by rw [List.mem_singleton.1 hk]; exact hx
  exact ⟨touch_mono hm h3, fun p hp => otouch_mono hm (h5 p hp)⟩

end Go.Proofs.Ytamcedjjlokfhaa.Ab
