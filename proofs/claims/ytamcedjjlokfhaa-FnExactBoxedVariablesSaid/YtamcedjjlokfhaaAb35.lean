/- The abstract machine, part 35: an array inside an array of the function's own is taken out, and put back. No condition. -/
import Derived.Test.YtamcedjjlokfhaaAb18
namespace Go.Proofs.Ytamcedjjlokfhaa.Ab
open Go
set_option linter.unusedVariables false

section
variable {P : Program} {E : Ent} {s : St} {ι : Interp} {a : Act} {w : World}

theorem Rel.sameObj (h : Rel E s ι a w) {s' : St} (hr : s'.regs = s.regs) (ho : s'.obj = s.obj) (hm : s'.m = s.m) : Rel E s' ι a w where
  len := by rw [hr]; exact h.len
  defers := h.defers
  regs t := by have := h.regs t; unfold St.reg at *; rw [hr, ho]; exact this
  objs i := by rw [ho]; exact h.objs i
  disj := h.disj
  gfp := h.gfp
  own := h.own
  lt := h.lt
  glt := h.glt
  frame := h.frame
  size := h.size
  os := h.os
  out := h.out
  ent i := by rw [ho]; exact h.ent i
  gg := h.gg
  gown := h.gown
  ment i hi := h.ment i (by rw [← hm]; exact hi)

theorem ownsRow_empty {e : TypeId} {sz sz' : Nat} {v : Value} {xs : List Value} (h : w.ownsRow 0 e sz v 0 xs) (h0 : ∃ a, v = .slice a 0 0) : w.ownsRow 0 e sz' v 0 xs := by
  obtain ⟨a, rfl⟩ := h0
  have hx : xs = [] := List.eq_nil_of_length_eq_zero (by simpa using h.1)
  subst hx
  refine ⟨by simp, ?_⟩
  rcases h.2 with ⟨h1, h2⟩ | ⟨g, cap, cur, h1, h2, h3, h4, h5, h6, h7⟩
  · exact .inl ⟨h1, h2⟩
  · simp only [Value.slice.injEq] at h1
    obtain ⟨rfl, _, rfl⟩ := h1
    exact .inr ⟨g, 0, cur, rfl, h2, h3, h4, h5, by simpa using h6, by simp⟩

/-- an owned list as an array of elements of the size that its elements have -/
theorem OwnC.arrRel {G F : Nat → Prop} {v : Value} {es : List (List Cell)} {sz : Nat} (h : OwnC w F v (.list es)) (hs : ∀ x ∈ es, x.length = sz) : ArrRel w (Nest w G true) sz F v es := by
  cases h with
  | arr h hsz hb sub nb dj hc h0 =>
    rename_i e sz1 xs Fs
    cases es with
    | nil => exact ⟨e, xs, Fs, ownsRow_empty h (h0 rfl), hs, hb, sub, nb, dj, hc, h0⟩
    | cons x r =>
      have : sz1 = sz := by rw [← hsz x List.mem_cons_self, hs x List.mem_cons_self]
      subst this
      exact ⟨e, xs, Fs, h, hs, hb, sub, nb, dj, hc, h0⟩

theorem flatten_set1 {sz : Nat} {es : List (List Cell)} {i p : Nat} {e : List Cell} {c : Cell} (hsz : ∀ x ∈ es, x.length = sz) (he : es[i]? = some e) (hp : p < e.length) :
    (es.set i (e.set p c)).flatten = es.flatten.set (i * sz + p) c := by
  have h1 : e.set p c = splice p [c] e := by
    unfold splice
    rw [List.set_eq_take_append_cons_drop, if_pos hp]; simp
  have hlt : i * sz + p < es.flatten.length := by
    have := flatten_get hsz he (List.getElem?_eq_getElem hp)
    exact (List.getElem?_eq_some_iff.1 this).1
  rw [h1, flatten_set hsz he (by simp; omega)]
  unfold splice
  rw [List.set_eq_take_append_cons_drop, if_pos hlt]; simp

/-- what is known of an array that has been taken out -/
structure Taken (w : World) (ι : Interp) (id n i sz p : Nat) : Prop where
  cell : ∀ b, (ι.sl id).ownBlock = some b → w.cell? ⟨b, i * sz + p, none⟩ = some (ι.sl n)
  blk : ∃ b, (ι.sl id).ownBlock = some b ∧ ι.fp id b

def focusSt (s : St) (id n i p sz : Nat) (es : List (List Cell)) (e : List Cell) (sz' : Nat) (es' : List (List Cell)) : St :=
  (s.setOb id (.arr true sz (es.set i (e.set p .any)))).setOb n (.arr true sz' es')

theorem Rel.focus (h : Rel E s ι a w) {id n i p sz sz' : Nat} {es es' : List (List Cell)} {e : List Cell} (ho : s.obj id = .arr true sz es) (he : es[i]? = some e) (hp : e[p]? = some (.list es')) (hx : ∀ x ∈ es', x.length = sz')
    (hf : s.obj n = .free) (hn : n < s.objs.length) (hreg : ∀ t, ∀ c ∈ (s.reg t).acs, ∀ k, c.src = some k → k ≠ id) (hbox : ∀ k, ∀ c ∈ (s.obj k).acs, ∀ k', c.src = some k' → k' ≠ id) :
    ∃ ι', Rel E (focusSt s id n i p sz es e sz' es') ι' a w ∧ ι'.sl id = ι.sl id ∧ Taken w ι' id n i sz p ∧ Ext (fun k => k ≠ id) w ι s.obj w ι' (focusSt s id n i p sz es e sz' es').obj := by
  have hor := h.objs id
  rw [ho] at hor
  obtain ⟨e0, xs, Fs, h1, h2, h3, h4, h5, h6, h7, h0⟩ := hor
  have hlx : xs.length = es.flatten.length := by rw [h1.1, flatten_length h2]
  have hpe : p < e.length := (List.getElem?_eq_some_iff.1 hp).1
  have hflat := flatten_get h2 he hp
  have hj0 : i * sz + p < es.flatten.length := (List.getElem?_eq_some_iff.1 hflat).1
  have hj0x : i * sz + p < xs.length := by rw [hlx]; exact hj0
  obtain ⟨v, hv⟩ : ∃ v, xs[i * sz + p]? = some v := ⟨_, List.getElem?_eq_getElem hj0x⟩
  have hown := h7 _ _ _ hv hflat
  have hidn : id ≠ n := fun e => by rw [e, hf] at ho; cases ho
  have hidl : id < s.objs.length := lt_of_obj ho (by simp)
  have hobj : ∀ k, (focusSt s id n i p sz es e sz' es').obj k = if k = n then .arr true sz' es' else if k = id then .arr true sz (es.set i (e.set p .any)) else s.obj k := by
    intro k
    unfold focusSt
    rw [obj_setOb (by rw [setOb_length]; exact hn), obj_setOb hidl]
  let ι' : Interp := { ι with sl := fun k => if k = n then v else ι.sl k, fp := fun k b => if k = n then Fs (i * sz + p) b else if k = id then ι.fp id b ∧ ¬ Fs (i * sz + p) b else ι.fp k b }
  have hfree : ∀ b, ¬ ι.fp n b := by
    have := h.objs n
    rw [hf] at this; exact this
  have hsl : ι'.sl id = ι.sl id := by simp only [ι', if_neg hidn]
  have hblk : ∃ b, (ι.sl id).ownBlock = some b := by
    rcases h1.2 with ⟨_, hz⟩ | ⟨g, cap, cur, hg, _⟩
    · have : es = [] := List.eq_nil_of_length_eq_zero hz
      subst this; simp at he
    · exact ⟨g, by rw [hg]; rfl⟩
  have hcells : ∀ b, (ι.sl id).ownBlock = some b → w.cell? ⟨b, i * sz + p, none⟩ = some v := by
    intro b hb
    have := World.ownsRow.cells (g := b) h1 hb (i * sz + p) v hv
    rw [addr_add] at this
    simpa using this
  have hext : Ext (fun k => k ≠ id) w ι s.obj w ι' (focusSt s id n i p sz es e sz' es').obj := by
    refine ⟨fun b hb => ⟨hb, rfl⟩, fun k => ?_⟩
    rw [hobj]
    by_cases hk : k = n
    · subst hk; rw [if_pos rfl, hf]; trivial
    · rw [if_neg hk]
      by_cases hk2 : k = id
      · subst hk2; rw [if_pos rfl, ho]
        exact ⟨hsl, rfl, fun hk => (hk rfl).elim⟩
      · rw [if_neg hk2]
        cases ek : s.obj k with
        | free => trivial
        | dead => trivial
        | box cs => rfl
        | arr o1 s1 e1 => exact ⟨by simp only [ι', if_neg hk], rfl, fun _ b hb => ⟨.inl (by simp only [ι', if_neg hk, if_neg hk2]; exact hb), rfl⟩⟩
        | map _ _ _ => exact ⟨rfl, rfl, rfl, fun _ b hb => ⟨.inl (by simp only [ι', if_neg hk, if_neg hk2]; exact hb), rfl⟩⟩
  have hfp : ∀ k b, ι'.fp k b → (k = n ∧ Fs (i * sz + p) b) ∨ (k = id ∧ ι.fp id b ∧ ¬ Fs (i * sz + p) b) ∨ (k ≠ n ∧ k ≠ id ∧ ι.fp k b) := by
    intro k b hb
    simp only [ι'] at hb
    split at hb
    · exact .inl ⟨‹_›, hb⟩
    · split at hb
      · exact .inr (.inl ⟨‹_›, hb⟩)
      · exact .inr (.inr ⟨‹_›, ‹_›, hb⟩)
  have hold : ∀ k b, ι'.fp k b → ∃ k', ι.fp k' b := by
    intro k b hb
    rcases hfp k b hb with ⟨_, hb⟩ | ⟨_, hb, _⟩ | ⟨_, _, hb⟩
    · exact ⟨id, h4 _ b hb⟩
    · exact ⟨id, hb⟩
    · exact ⟨k, hb⟩
  have hnestid : ArrRel w (Nest w ι'.G true) sz (ι'.fp id) (ι'.sl id) (es.set i (e.set p .any)) := by
    rw [hsl]
    refine ⟨e0, xs, fun j b => j ≠ i * sz + p ∧ Fs j b, by rw [List.length_set]; exact h1, ?_, ?_, ?_, ?_, ?_, ?_, fun hn => h0 (by simpa using hn)⟩
    · intro x hxm
      rcases List.mem_or_eq_of_mem_set hxm with hm | rfl
      · exact h2 x hm
      · rw [List.length_set]; exact h2 e (List.mem_of_getElem? he)
    · intro b hb; simp only [ι', if_neg hidn, if_true]; exact ⟨h3 b hb, h5 _ b hb⟩
    · intro j b hb; simp only [ι', if_neg hidn, if_true]; exact ⟨h4 j b hb.2, h6 _ _ b hb.1 hb.2⟩
    · intro j b hb hk; exact h5 j b hb hk.2
    · intro j j' b hne hb hb'; exact h6 j j' b hne hb.2 hb'.2
    · intro j u c hu hc
      rw [flatten_set1 h2 he hpe, List.getElem?_set] at hc
      by_cases hj : i * sz + p = j
      · subst hj
        rw [if_pos rfl, if_pos hj0] at hc
        simp only [Option.some.injEq] at hc
        subst hc
        rw [hv] at hu
        simp only [Option.some.injEq] at hu
        subst hu
        exact OwnC.any hown.one
      · rw [if_neg hj] at hc
        exact OwnC.wide (h7 j u c hu hc) fun b hb => ⟨fun e => hj e.symm, hb⟩
  have hnestn : ArrRel w (Nest w ι'.G true) sz' (ι'.fp n) (ι'.sl n) es' := by
    have e1 : ι'.sl n = v := by simp only [ι', if_true]
    have e2 : ι'.fp n = Fs (i * sz + p) := by funext b; simp only [ι', if_true]
    rw [e1, e2]
    exact OwnC.arrRel hown hx
  refine ⟨ι', ?_, hsl, ⟨fun b hb => ?_, ?_⟩, hext⟩
  · refine Rel.step h hext (fun t => .inl ⟨rfl, fun c hc k hk => hreg t c hc k hk⟩) rfl rfl (fun k => ?_) ?_ ?_ ?_ ?_ h.glt (fun _ _ _ => rfl) (Nat.le_refl _) rfl rfl
    · by_cases hk : k = n
      · right; rw [hobj, if_pos hk, hk]; exact hnestn
      · by_cases hk2 : k = id
        · right; rw [hobj, if_neg hk, if_pos hk2, hk2]; exact hnestid
        · left
          rw [hobj, if_neg hk, if_neg hk2]
          exact ⟨rfl, ⟨rfl, by simp only [ι', if_neg hk], fun b => by simp only [ι', if_neg hk, if_neg hk2], fun _ _ => rfl⟩, fun c hc k' hk' => hbox k c hc k' hk'⟩
    · intro x y b hne hx1 hy1
      rcases hfp x b hx1 with ⟨rfl, f1⟩ | ⟨rfl, f1, g1⟩ | ⟨n1, n2, f1⟩ <;> rcases hfp y b hy1 with ⟨rfl, f2⟩ | ⟨rfl, f2, g2⟩ | ⟨m1, m2, f2⟩
      · exact hne rfl
      · exact g2 f1
      · exact h.disj id y b (fun e => m2 e.symm) (h4 _ b f1) f2
      · exact g1 f2
      · exact hne rfl
      · exact h.disj x y b hne f1 f2
      · exact h.disj x id b n2 f1 (h4 _ b f2)
      · exact h.disj x y b hne f1 f2
      · exact h.disj x y b hne f1 f2
    · intro k b hb hg
      obtain ⟨k', hk'⟩ := hold k b hb
      exact h.gfp k' b hk' hg
    · intro k b hb
      obtain ⟨k', hk'⟩ := hold k b hb
      exact h.own k' b hk'
    · intro k b hb
      obtain ⟨k', hk'⟩ := hold k b hb
      exact h.lt k' b hk'
  · have e1 : ι'.sl n = v := by simp only [ι', if_true]
    rw [e1]; rw [hsl] at hb; exact hcells b hb
  · obtain ⟨b, hb⟩ := hblk
    exact ⟨b, by rw [hsl]; exact hb, by simp only [ι', if_neg hidn, if_true]; exact ⟨h3 b hb, h5 _ b hb⟩⟩

def unfocusSt (s : St) (id n i p sz : Nat) (es : List (List Cell)) (e : List Cell) (es' : List (List Cell)) : St :=
  (s.setOb id (.arr true sz (es.set i (e.set p (.list es'))))).setOb n .dead

theorem Rel.unfocus (h : Rel E s ι a w) {id n i p sz sz' : Nat} {es es' : List (List Cell)} {e : List Cell} (ho : s.obj id = .arr true sz es) (hon : s.obj n = .arr true sz' es') (he : es[i]? = some e) (hp : p < e.length)
    (hne : id ≠ n) (ht : Taken w ι id n i sz p) : ∃ ι', Rel E (unfocusSt s id n i p sz es e es') ι' a w ∧ Ext (fun _ => True) w ι s.obj w ι' (unfocusSt s id n i p sz es e es').obj := by
  have hor := h.objs id
  rw [ho] at hor
  obtain ⟨e0, xs, Fs, h1, h2, h3, h4, h5, h6, h7, h0⟩ := hor
  have hlx : xs.length = es.flatten.length := by rw [h1.1, flatten_length h2]
  have horn := h.objs n
  rw [hon] at horn
  have hown : OwnC w (ι.fp n) (ι.sl n) (.list es') := ArrRel.own horn
  have hflat := flatten_get h2 he (List.getElem?_eq_getElem hp)
  have hj0 : i * sz + p < es.flatten.length := (List.getElem?_eq_some_iff.1 hflat).1
  have hidl : id < s.objs.length := lt_of_obj ho (by simp)
  have hnl : n < s.objs.length := lt_of_obj hon (by simp)
  have hobj : ∀ k, (unfocusSt s id n i p sz es e es').obj k = if k = n then .dead else if k = id then .arr true sz (es.set i (e.set p (.list es'))) else s.obj k := by
    intro k
    unfold unfocusSt
    rw [obj_setOb (by rw [setOb_length]; exact hnl), obj_setOb hidl]
  let ι' : Interp := { ι with fp := fun k b => if k = n then False else if k = id then ι.fp id b ∨ ι.fp n b else ι.fp k b }
  obtain ⟨b0, hb0, _⟩ := ht.blk
  have hv : xs[i * sz + p]? = some (ι.sl n) := by
    have hj : i * sz + p < xs.length := by rw [hlx]; exact hj0
    have h8 := World.ownsRow.cells (g := b0) h1 hb0 (i * sz + p) _ (List.getElem?_eq_getElem hj)
    rw [addr_add] at h8
    have h9 := ht.cell b0 hb0
    simp only [Nat.zero_add] at h8
    rw [h9] at h8
    simp only [Option.some.injEq] at h8
    rw [List.getElem?_eq_getElem hj, ← h8]
  have hext : Ext (fun _ => True) w ι s.obj w ι' (unfocusSt s id n i p sz es e es').obj := by
    refine ⟨fun b hb => ⟨hb, rfl⟩, fun k => ?_⟩
    rw [hobj]
    by_cases hk : k = n
    · subst hk; rw [if_pos rfl, hon]; trivial
    · rw [if_neg hk]
      by_cases hk2 : k = id
      · subst hk2; rw [if_pos rfl, ho]
        exact ⟨rfl, rfl, fun _ b hb => ⟨.inl (by simp only [ι', if_neg hk, if_true]; exact .inl hb), rfl⟩⟩
      · rw [if_neg hk2]
        cases ek : s.obj k with
        | free => trivial
        | dead => trivial
        | box cs => rfl
        | arr o1 s1 e1 => exact ⟨rfl, rfl, fun _ b hb => ⟨.inl (by simp only [ι', if_neg hk, if_neg hk2]; exact hb), rfl⟩⟩
        | map _ _ _ => exact ⟨rfl, rfl, rfl, fun _ b hb => ⟨.inl (by simp only [ι', if_neg hk, if_neg hk2]; exact hb), rfl⟩⟩
  have hfp : ∀ k b, ι'.fp k b → k ≠ n ∧ ((k = id ∧ (ι.fp id b ∨ ι.fp n b)) ∨ (k ≠ id ∧ ι.fp k b)) := by
    intro k b hb
    simp only [ι'] at hb
    split at hb
    · exact hb.elim
    · refine ⟨‹_›, ?_⟩
      split at hb
      · exact .inl ⟨‹_›, hb⟩
      · exact .inr ⟨‹_›, hb⟩
  have hold : ∀ k b, ι'.fp k b → ∃ k', ι.fp k' b := by
    intro k b hb
    obtain ⟨_, ⟨_, hb | hb⟩ | ⟨_, hb⟩⟩ := hfp k b hb
    · exact ⟨id, hb⟩
    · exact ⟨n, hb⟩
    · exact ⟨k, hb⟩
  have hnestid : ArrRel w (Nest w ι'.G true) sz (ι'.fp id) (ι'.sl id) (es.set i (e.set p (.list es'))) := by
    refine ⟨e0, xs, fun j b => if j = i * sz + p then ι.fp n b else Fs j b, by rw [List.length_set]; exact h1, ?_, ?_, ?_, ?_, ?_, ?_, fun hn => h0 (by simpa using hn)⟩
    · intro x hxm
      rcases List.mem_or_eq_of_mem_set hxm with hm | rfl
      · exact h2 x hm
      · rw [List.length_set]; exact h2 e (List.mem_of_getElem? he)
    · intro b hb; simp only [ι', if_neg hne, if_true]; exact .inl (h3 b hb)
    · intro j b hb
      simp only [ι', if_neg hne, if_true]
      split at hb
      · exact .inr hb
      · exact .inl (h4 j b hb)
    · intro j b hb hk
      split at hk
      · exact h.disj id n b hne (h3 b hb) hk
      · exact h5 j b hb hk
    · intro j j' b hjj hb hb'
      split at hb <;> split at hb'
      · omega
      · exact h.disj id n b hne (h4 _ b hb') hb
      · exact h.disj id n b hne (h4 _ b hb) hb'
      · exact h6 j j' b hjj hb hb'
    · intro j u c hu hc
      rw [flatten_set1 h2 he hp, List.getElem?_set] at hc
      by_cases hj : i * sz + p = j
      · subst hj
        rw [if_pos rfl, if_pos hj0] at hc
        simp only [Option.some.injEq] at hc
        subst hc
        rw [hv] at hu
        simp only [Option.some.injEq] at hu
        subst hu
        simp only [if_true]
        exact hown
      · rw [if_neg hj] at hc
        have hj' : ¬ (j = i * sz + p) := fun e => hj e.symm
        simp only [hj', if_false]
        exact h7 j u c hu hc
  refine ⟨ι', ?_, hext⟩
  refine Rel.step h hext (fun t => .inl ⟨rfl, fun _ _ _ _ => trivial⟩) rfl rfl (fun k => ?_) ?_ ?_ ?_ ?_ h.glt (fun _ _ _ => rfl) (Nat.le_refl _) rfl rfl
  · by_cases hk : k = n
    · right; rw [hobj, if_pos hk]
      intro b hb
      exact (hfp k b hb).1 hk
    · by_cases hk2 : k = id
      · right; rw [hobj, if_neg hk, if_pos hk2, hk2]; exact hnestid
      · left
        rw [hobj, if_neg hk, if_neg hk2]
        exact ⟨rfl, ⟨rfl, rfl, fun b => by simp only [ι', if_neg hk, if_neg hk2], fun _ _ => rfl⟩, fun _ _ _ _ => trivial⟩
  · intro x y b hxy hx1 hy1
    obtain ⟨nx, cx⟩ := hfp x b hx1
    obtain ⟨ny, cy⟩ := hfp y b hy1
    rcases cx with ⟨rfl, f1⟩ | ⟨n1, f1⟩ <;> rcases cy with ⟨rfl, f2⟩ | ⟨n2, f2⟩
    · exact hxy rfl
    · rcases f1 with f1 | f1
      · exact h.disj x y b hxy f1 f2
      · exact h.disj n y b (fun e => ny e.symm) f1 f2
    · rcases f2 with f2 | f2
      · exact h.disj x y b hxy f1 f2
      · exact h.disj x n b nx f1 f2
    · exact h.disj x y b hxy f1 f2
  · intro k b hb hg
    obtain ⟨k', hk'⟩ := hold k b hb
    exact h.gfp k' b hk' hg
  · intro k b hb
    obtain ⟨k', hk'⟩ := hold k b hb
    exact h.own k' b hk'
  · intro k b hb
    obtain ⟨k', hk'⟩ := hold k b hb
    exact h.lt k' b hk'
end
end Go.Proofs.Ytamcedjjlokfhaa.Ab
