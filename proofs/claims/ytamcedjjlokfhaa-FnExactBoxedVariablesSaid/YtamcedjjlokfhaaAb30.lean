/- The abstract machine, part 30: what is blotted out is unknown, the rest is as it is in every state. No condition. -/
import Derived.Test.YtamcedjjlokfhaaAb29
namespace Go.Proofs.Ytamcedjjlokfhaa.Ab
open Go
set_option linter.unusedVariables false

theorem blotObs_get (ids : List Nat) : ∀ (l : List Ob) (n i : Nat), (blotObs ids n l).getD i .free = .dead ∨
    ((blotObs ids n l).getD i .free = l.getD i .free ∧ ((ids.elem (n + i) = false ∧ (l.getD i .free).touch ids = false) ∨ l.length ≤ i))
  | [], n, i => .inr ⟨rfl, .inr (Nat.zero_le _)⟩
  | o :: l, n, 0 => by
    simp only [blotObs, List.getD_cons_zero, Nat.add_zero]
    cases h : (ids.elem n || o.touch ids) with
    | true => exact .inl rfl
    | false => exact .inr ⟨rfl, .inl (by simpa using h)⟩
  | o :: l, n, i + 1 => by
    simp only [blotObs, List.getD_cons_succ]
    refine (blotObs_get ids l (n + 1) i).imp id fun ⟨h1, h2⟩ => ⟨h1, h2.imp (fun h => ?_) (fun h => ?_)⟩
    · rw [show n + (i + 1) = n + 1 + i by omega]; exact h
    · simpa using h

theorem blotObs_length (ids : List Nat) : ∀ (l : List Ob) (n : Nat), (blotObs ids n l).length = l.length
  | [], _ => rfl
  | o :: l, n => by simp [blotObs, blotObs_length ids l]

theorem blot_rlen (s : St) (dst : Option Nat) (ids : List Nat) : (s.blot dst ids).regs.length = s.regs.length := by
  cases ids <;> cases dst <;> simp [St.blot, St.put]
theorem blot_olen (s : St) (dst : Option Nat) (ids : List Nat) : (s.blot dst ids).objs.length = s.objs.length := by
  cases ids with
  | nil => rw [St.blot, put_objs]
  | cons i ids => rw [St.blot, put_objs]; exact blotObs_length _ _ _

theorem atop_touch (ids : List Nat) : atop.touch ids = false := by cases ids <;> rfl
theorem free_touch (ids : List Nat) : Ob.free.touch ids = false := by cases ids <;> rfl

theorem blot_reg (s : St) (dst : Option Nat) (ids : List Nat) (t : Nat) : (s.blot dst ids).reg t = unk ∨
    ((s.blot dst ids).reg t = s.reg t ∧ (dst ≠ some t ∨ s.regs.length ≤ t) ∧ (s.reg t).touch ids = false) := by
  have key : ∀ s1 : St, s1.regs.length = s.regs.length → (s1.reg t = unk ∨ (s1.reg t = s.reg t ∧ (s.reg t).touch ids = false)) →
      (s1.put dst unk).reg t = unk ∨ ((s1.put dst unk).reg t = s.reg t ∧ (dst ≠ some t ∨ s.regs.length ≤ t) ∧ (s.reg t).touch ids = false) := by
    intro s1 hl h
    rw [put_reg]
    by_cases hd : dst = some t ∧ t < s1.regs.length
    · rw [if_pos hd]; exact .inl rfl
    · rw [if_neg hd]
      refine h.imp id fun ⟨h1, h2⟩ => ⟨h1, ?_, h2⟩
      by_cases hd1 : dst = some t
      · exact .inr (by rw [← hl]; exact Nat.le_of_not_lt fun hlt => hd ⟨hd1, hlt⟩)
      · exact .inl hd1
  cases ids with
  | nil => exact key s rfl (.inr ⟨rfl, rfl⟩)
  | cons i ids =>
    refine key _ (by simp) ?_
    have e : (St.reg { s with regs := s.regs.map (blotAV (i :: ids)), objs := blotObs (i :: ids) 0 s.objs } t) = blotAV (i :: ids) (s.reg t) := reg_map s (blotAV (i :: ids)) (by simp [blotAV, atop_touch]) t
    rw [e]
    unfold blotAV
    cases h : (s.reg t).touch (i :: ids) with
    | true => exact .inl rfl
    | false => exact .inr ⟨rfl, rfl⟩

theorem blot_obj (s : St) (dst : Option Nat) (ids : List Nat) (x : Nat) : (s.blot dst ids).obj x = .dead ∨
    ((s.blot dst ids).obj x = s.obj x ∧ ((ids.elem x = false ∧ (s.obj x).touch ids = false) ∨ s.obj x = .free)) := by
  cases ids with
  | nil =>
    right
    rw [St.blot, St.obj_put]
    exact ⟨rfl, .inl ⟨rfl, rfl⟩⟩
  | cons i ids =>
    rw [St.blot, St.obj_put]
    refine (blotObs_get (i :: ids) s.objs 0 x).imp id fun ⟨h1, h2⟩ => ⟨h1, h2.imp (fun h => ?_) fun h => ?_⟩
    · rw [Nat.zero_add] at h; exact h
    · simp [St.obj, List.getElem?_eq_none h]

theorem blotAll_rlen : ∀ (l : List (Option Nat × List Nat)) (s : St), (blotAll s l).regs.length = s.regs.length
  | [], s => rfl
  | (d, ids) :: l, s => by rw [blotAll, blotAll_rlen l, blot_rlen]

theorem blotAll_reg : ∀ (l : List (Option Nat × List Nat)) (s : St) (t : Nat), (blotAll s l).reg t = unk ∨
    ((blotAll s l).reg t = s.reg t ∧ ∀ p ∈ l, (p.1 ≠ some t ∨ s.regs.length ≤ t) ∧ (s.reg t).touch p.2 = false)
  | [], s, t => .inr ⟨rfl, fun _ h => by cases h⟩
  | (d, ids) :: l, s, t => by
    rw [blotAll]
    rcases blotAll_reg l (s.blot d ids) t with h | ⟨h1, h2⟩
    · exact .inl h
    · rcases blot_reg s d ids t with h3 | ⟨h3, h4, h5⟩
      · exact .inl (by rw [h1, h3])
      · refine .inr ⟨by rw [h1, h3], fun p hp => ?_⟩
        rcases List.mem_cons.1 hp with rfl | hp
        · exact ⟨h4, h5⟩
        · have := h2 p hp
          rw [h3, blot_rlen] at this
          exact this

theorem blotAll_obj : ∀ (l : List (Option Nat × List Nat)) (s : St) (x : Nat), ((blotAll s l).obj x = .dead ∨ (blotAll s l).obj x = .free) ∨
    ((blotAll s l).obj x = s.obj x ∧ ∀ p ∈ l, p.2.elem x = false ∧ (s.obj x).touch p.2 = false)
  | [], s, x => .inr ⟨rfl, fun _ h => by cases h⟩
  | (d, ids) :: l, s, x => by
    rw [blotAll]
    rcases blotAll_obj l (s.blot d ids) x with h | ⟨h1, h2⟩
    · exact .inl h
    · rcases blot_obj s d ids x with h3 | ⟨h3, h4⟩
      · exact .inl (.inl (by rw [h1, h3]))
      · rcases h4 with h4 | h4
        · refine .inr ⟨by rw [h1, h3], fun p hp => ?_⟩
          rcases List.mem_cons.1 hp with rfl | hp
          · exact h4
          · have := h2 p hp
            rw [h3] at this
            exact this
        · exact .inl (.inr (by rw [h1, h3, h4]))

theorem blotsFor_mem {ms : List Nat} {bls : List (Option Nat × List Nat)} {i j : Nat} (h : unordB ms i j = true) : ∀ {l : List Nat}, j ∈ l → bls.getD j (none, []) ∈ blotsFor ms bls i l
  | k :: l, hm => by
    simp only [blotsFor]
    rcases List.mem_cons.1 hm with rfl | hm
    · rw [h]; exact List.mem_cons_self
    · split
      · exact List.mem_cons_of_mem _ (blotsFor_mem h hm)
      · exact blotsFor_mem h hm

theorem reg_out {s : St} {t : Nat} (h : s.regs.length ≤ t) : s.reg t = atop := by simp [St.reg, List.getElem?_eq_none h, atop]

/-- ████ WHAT AN OPERATION MAY KNOW IS SO IN EVERY STATE THAT IT MAY MEET ████ -/
theorem mkS_le {n : Nat} {ms : List Nat} {bls : List (Option Nat × List Nat)} {s0 : St} {ds : List Eff} {i : Nat} {fT : Nat → Bool}
    (hsub : ∀ j, (ms.getD i 0).testBit j = true → fT j = true)
    (hn : ∀ d ∈ ds, d.i < n)
    (hun : ∀ d ∈ ds, fT d.i = true → (ms.getD i 0).testBit d.i = false → unordB ms i d.i = true)
    (hbl : ∀ d ∈ ds, (bls.getD d.i (none, [])).1 = d.dst ∧ (∀ p ∈ d.obs, (bls.getD d.i (none, [])).2.elem p.1 = true) ∧ ∀ x ∈ d.r.inv, (bls.getD d.i (none, [])).2.elem x = true)
    (hap : ds.Pairwise fun u d => fT u.i = true → (ms.getD i 0).testBit u.i = false → (ms.getD i 0).testBit d.i = true → u.apart d = true) :
    Le (mkS n ms bls s0 ds i) (effs fT s0 ds) := by
  let U (d : Eff) : Prop := d ∈ ds ∧ fT d.i = true ∧ (ms.getD i 0).testBit d.i = false
  obtain ⟨J, hJ, h⟩ := effs_two (fA := fun j => (ms.getD i 0).testBit j) (fT := fT) hsub (Dt := fun x => ∃ u, U u ∧ u.dst = some x) (Ox := fun x => ∃ u, U u ∧ ∃ p ∈ u.obs, p.1 = x) (Jx := fun x => ∃ u, U u ∧ x ∈ u.r.inv) ds s0 s0 []
    (fun _ hx => by cases hx) ⟨rfl, rfl, fun x => .inl (invAV_nil _).symm, fun x => .inl (invOb_nil _).symm⟩
    (fun _ _ _ _ hx => by cases hx) (hap.imp fun hh h1 h2 h3 => Clean.of_apart (hh h1 h2 h3))
    (fun d hd h1 h2 => ⟨fun x hx => ⟨d, ⟨hd, h1, h2⟩, hx⟩, fun p hp => ⟨d, ⟨hd, h1, h2⟩, p, hp, rfl⟩, fun x hx => ⟨d, ⟨hd, h1, h2⟩, hx⟩⟩)
  have hmem : ∀ u, U u → bls.getD u.i (none, []) ∈ blotsFor ms bls i (List.range n) := fun u hu => blotsFor_mem (hun u hu.1 hu.2.1 hu.2.2) (List.mem_range.2 (hn u hu.1))
  constructor
  · intro t
    rcases blotAll_reg (blotsFor ms bls i (List.range n)) (effs (fun j => (ms.getD i 0).testBit j) s0 ds) t with h1 | ⟨h1, h2⟩
    · exact .inl h1
    · right
      show _ = (blotAll _ _).reg t
      rw [h1]
      by_cases hl : (effs (fun j => (ms.getD i 0).testBit j) s0 ds).regs.length ≤ t
      · rw [reg_out hl, reg_out (by rw [← h.rlen]; exact hl)]
      · rcases h.reg t with h3 | ⟨u, hu, hd⟩
        · rw [h3]
          refine invAV_same (touch_all fun x hx => ?_)
          obtain ⟨u, hu, hxu⟩ := hJ x hx
          refine touch_mono (fun k hk => ?_) (h2 _ (hmem u hu)).2
          rw [List.mem_singleton.1 hk]
          have := (hbl u hu.1).2.2 x hxu
          simpa using this
        · have := (h2 _ (hmem u hu)).1
          rw [(hbl u hu.1).1] at this
          exact (this.elim (fun k => k hd) fun k => hl k).elim
  · intro x
    rcases blotAll_obj (blotsFor ms bls i (List.range n)) (effs (fun j => (ms.getD i 0).testBit j) s0 ds) x with h1 | ⟨h1, h2⟩
    · exact .inl h1.symm
    · right
      show _ = (blotAll _ _).obj x
      rw [h1]
      rcases h.obj x with h3 | ⟨u, hu, p, hp, rfl⟩
      · rw [h3]
        refine invOb_same (otouch_all fun y hy => ?_)
        obtain ⟨u, hu, hyu⟩ := hJ y hy
        refine otouch_mono (fun k hk => ?_) (h2 _ (hmem u hu)).2
        rw [List.mem_singleton.1 hk]
        have := (hbl u hu.1).2.2 y hyu
        simpa using this
      · have h4 := (h2 _ (hmem u hu)).1
        have h5 := (hbl u hu.1).2.1 p hp
        rw [h4] at h5; cases h5

end Go.Proofs.Ytamcedjjlokfhaa.Ab
