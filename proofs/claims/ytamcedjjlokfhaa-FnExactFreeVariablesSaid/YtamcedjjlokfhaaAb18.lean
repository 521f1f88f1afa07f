/- The abstract machine, part 18: the state behind a call; the call as an operation. No condition. -/
import Derived.Test.YtamcedjjlokfhaaAb17
namespace Go.Proofs.Ytamcedjjlokfhaa.Ab
open Go
set_option linter.unusedVariables false

theorem inval_length (ids : List Nat) (s : St) : (s.inval ids).objs.length = s.objs.length := by
  cases ids <;> simp [St.inval]

theorem obj_inval' (ids : List Nat) (s : St) (i : Nat) : ∃ o, (s.inval ids).obj i = o ∧ (match s.obj i with | .box cs => ∃ cs', o = .box cs' | x => o = x) := by
  cases ids with
  | nil => refine ⟨_, rfl, ?_⟩; simp only [St.inval]; split <;> simp_all
  | cons a l => refine ⟨_, rfl, ?_⟩; rw [obj_inval]; cases s.obj i <;> simp [invOb]

section
variable {P : Program} {E : Ent} {s : St} {ι : Interp} {a : Act} {w : World} {p : Pass} {R : Nat → Prop}

theorem ostep_none {w1 w2 : World} {ι1 ι2 : Interp} {K : Prop} {i : Nat} {o o' : Ob} (h : OStep w1 w2 ι1 ι2 K i o o') (ho : o ≠ .free) : o' ≠ .free := by
  cases o <;> cases o' <;> simp_all [OStep]

theorem call_rel (h : Rel E s ι a w) (hp : PassOK s p) (hRg : ∀ b, R b → ι.G b ∨ ∃ id, some id ∉ p.emb ∧ ι.fp id b)
    {n : Nat} {objs1 : List Ob} (hroom : Room s n objs1.length) {res : AV} {w' : World} {v : Value} {ι1 : Interp} (hpost : PostRel w (callI ι p.emb R) p.objs objs1 res w' v ι1)
    (hG : (p.lent = [] ∧ R = ι.G) ∨ (objs1.all Ob.noG = true ∧ res.acs.all AC.noG = true)) :
    ∃ ι', Rel E ((s.inval (somes p.emb)).updObs (backUpd p.emb n objs1)) ι' a w' ∧ AVRel w' ι' ((s.inval (somes p.emb)).updObs (backUpd p.emb n objs1)).obj (res.ren (renOf p.emb n)) v ∧
      Ext (fun i => i ∉ somes p.emb) w ι (s.inval (somes p.emb)).obj w' ι' ((s.inval (somes p.emb)).updObs (backUpd p.emb n objs1)).obj := by
  classical
  let ids := somes p.emb
  let s1 := s.inval ids
  have h1 : Rel E s1 ι a w := h.inval ids
  let ren := renOf p.emb n
  let L := objs1.length
  have hpne : ∀ j id, p.emb[j]? = some (some id) → s.obj id ≠ .free ∧ j < L := by
    intro j id he
    obtain ⟨o, k1, k2⟩ := hp.som j id he
    refine ⟨?_, ?_⟩
    · rcases k2 with ⟨_, _, _, k3, _⟩ | ⟨_, _, k3, _⟩ | ⟨_, _, _, k3, _⟩ <;> rw [k3] <;> simp
    · have := ostep_none (hpost.ext j) (by rw [obOf_get k1]; exact k2.notFree)
      rcases Nat.lt_or_ge j objs1.length with hlt | hge
      · exact hlt
      · exact (this (by simp [obOf, List.getElem?_eq_none hge])).elim
  have hnew : ∀ j, j < L → emap p.emb j = none → s.obj (n + j) = .free ∧ n + j < s.objs.length := fun j hj _ => hroom (n + j) (by omega) (by omega)
  have hrl : ∀ j, j < L → ren j < s.objs.length := by
    intro j hj
    simp only [ren, renOf]
    split
    · rename_i id e; exact lt_of_obj rfl (hpne j id (emap_some.1 e)).1
    · rename_i e; exact (hnew j hj e).2
  have hinj : ∀ j, j < L → ∀ j', j' < L → ren j = ren j' → j = j' := by
    intro j hj j' hj' e
    simp only [ren, renOf] at e
    split at e <;> split at e
    · rename_i id e1 _ id' e2
      subst e
      exact hp.inj j j' id (emap_some.1 e1) (emap_some.1 e2)
    · rename_i id e1 _ e2
      have := (hpne j id (emap_some.1 e1)).1
      rw [e] at this
      exact (this (hnew j' hj' e2).1).elim
    · rename_i _ e1 _ id e2
      have := (hpne j' id (emap_some.1 e2)).1
      rw [← e] at this
      exact (this (hnew j hj e1).1).elim
    · omega
  let s' := s1.updObs (backUpd p.emb n objs1)
  obtain ⟨u1, u2⟩ := updObs_range (fun j => (obOf objs1 j).ren ren) ren (List.range L) s1 (fun j hj => by rw [inval_length]; exact hrl j (List.mem_range.1 hj))
    (fun j hj j' hj' => hinj j (List.mem_range.1 hj) j' (List.mem_range.1 hj'))
  have hs'o : ∀ j, j < L → s'.obj (ren j) = (obOf objs1 j).ren ren := fun j hj => u2 j (List.mem_range.2 hj)
  have hs'n : ∀ i, (∀ j, j < L → ren j ≠ i) → s'.obj i = s1.obj i := fun i hi => u1 i fun j hj => hi j (List.mem_range.1 hj)
  -- the inverse
  let inv : Nat → Option Nat := fun i => if hx : ∃ j, j < L ∧ ren j = i then some (Classical.choose hx) else none
  have hinv1 : ∀ j, j < L → inv (ren j) = some j := by
    intro j hj
    have hx : ∃ j', j' < L ∧ ren j' = ren j := ⟨j, hj, rfl⟩
    simp only [inv, dif_pos hx]
    have := Classical.choose_spec hx
    exact congrArg some (hinj _ this.1 j hj this.2)
  have hinv2 : ∀ i, inv i = none → ∀ j, j < L → ren j ≠ i := by
    intro i hi j hj e
    rw [← e, hinv1 j hj] at hi
    cases hi
  have hinv3 : ∀ i j, inv i = some j → j < L ∧ ren j = i := by
    intro i j hi
    simp only [inv] at hi
    split at hi
    · rename_i hx
      simp only [Option.some.injEq] at hi
      rw [← hi]; exact Classical.choose_spec hx
    · cases hi
  let G'' : Nat → Prop := if p.lent = [] ∧ R = ι.G then ι1.G else ι.G
  let ι' : Interp := { G := G'', blk := fun i => (match inv i with | some j => ι1.blk j | none => ι.blk i), sl := fun i => (match inv i with | some j => ι1.sl j | none => ι.sl i),
                       fp := fun i b => (match inv i with | some j => ι1.fp j b | none => ι.fp i b) }
  have hfp : ∀ i b, ι'.fp i b → (∃ j, j < L ∧ ren j = i ∧ ι1.fp j b) ∨ (inv i = none ∧ ι.fp i b) := by
    intro i b hb
    simp only [ι'] at hb
    split at hb
    · rename_i j e; exact .inl ⟨j, (hinv3 i j e).1, (hinv3 i j e).2, hb⟩
    · exact .inr ⟨‹_›, hb⟩
  -- the passed ones are covered
  have hpas : ∀ i, some i ∈ p.emb → ∃ j, j < L ∧ ren j = i ∧ p.emb[j]? = some (some i) := by
    intro i hi
    obtain ⟨j, hj⟩ := List.getElem?_of_mem hi
    exact ⟨j, (hpne j i hj).2, by simp only [ren, renOf, emap_some.2 hj], hj⟩
  have hnp : ∀ i, inv i = none → some i ∉ p.emb := by
    intro i hi hm
    obtain ⟨j, hj, e, _⟩ := hpas i hm
    exact hinv2 i hi j hj e
  -- frames
  have hcfp : ∀ b, (∃ i, (callI ι p.emb R).fp i b) → ∃ id, some id ∈ p.emb ∧ ι.fp id b := by
    rintro b ⟨i, hi⟩
    obtain ⟨id, e1, f1⟩ := callI_fp hi
    exact ⟨id, List.mem_of_getElem? e1, f1⟩
  have hframe : ∀ b, b < w.heap.size → (∀ id, some id ∈ p.emb → ¬ ι.fp id b) → w'.heap[b]? = w.heap[b]? := by
    intro b hb hn
    refine hpost.frame b hb fun i hi => ?_
    obtain ⟨id, hm, hf⟩ := hcfp b ⟨i, hi⟩
    exact hn id hm hf
  have hGsame : ∀ b, ι.G b → w'.heap[b]? = w.heap[b]? := fun b hb => hframe b (h.glt b hb) fun id _ hf => h.gfp id b hf hb
  have hGG : ∀ b, ι.G b → G'' b := by
    intro b hb
    simp only [G'']
    split
    · rename_i hc
      have := hpost.gg b
      simp only [callI] at this
      exact this (by rw [hc.2]; exact hb)
    · exact hb
  have hG1 : ∀ b, G'' b → ι.G b ∨ (∃ id, some id ∈ p.emb ∧ ι.fp id b) ∨ w.heap.size ≤ b := by
    intro b hb
    simp only [G''] at hb
    split at hb
    · rename_i hc
      rcases hpost.gown b hb with h2 | h2 | h2
      · simp only [callI] at h2; rw [hc.2] at h2; exact .inl h2
      · exact .inr (.inl (hcfp b h2))
      · exact .inr (.inr h2)
    · exact .inl hb
  have hG2 : ∀ j b, ι1.fp j b → ¬ G'' b := by
    intro j b hj hb
    simp only [G''] at hb
    split at hb
    · exact hpost.gfp j b hj hb
    · rename_i hc
      rcases hpost.own j b hj with h2 | h2
      · obtain ⟨id, _, hf⟩ := hcfp b h2
        exact h.gfp id b hf hb
      · have := h.glt b hb; omega
  have hunp : ∀ i b, inv i = none → ι.fp i b → w'.heap[b]? = w.heap[b]? := fun i b hi hf => hframe b (h.lt i b hf) fun id hm hf' => h.disj i id b (fun e => hnp i hi (e ▸ hm)) hf hf'
  have hregs : s'.regs = s1.regs := updObs_regs _ _
  have hext : Ext (fun i => i ∉ ids) w ι s1.obj w' ι' s'.obj := by
    refine ⟨fun b hb => ⟨hGG b hb, hGsame b hb⟩, fun i => ?_⟩
    cases hi : inv i with
    | none =>
      rw [hs'n i (hinv2 i hi)]
      have e1 : ι'.blk i = ι.blk i := by simp only [ι', hi]
      have e2 : ι'.sl i = ι.sl i := by simp only [ι', hi]
      have e3 : ∀ b, ι.fp i b → ι'.fp i b := fun b hb => by simp only [ι', hi]; exact hb
      cases e : s1.obj i with
      | free => trivial
      | dead => trivial
      | box cs => exact e1
      | arr own sz es => exact ⟨e2, rfl, fun _ b hb => ⟨.inl (e3 b hb), hunp i b hi hb⟩⟩
      | map nn k f => exact ⟨e1, rfl, rfl, fun _ b hb => ⟨.inl (e3 b hb), hunp i b hi hb⟩⟩
    | some j =>
      obtain ⟨hj, hji⟩ := hinv3 i j hi
      have e1 : ι'.blk i = ι1.blk j := by simp only [ι', hi]
      have e2 : ι'.sl i = ι1.sl j := by simp only [ι', hi]
      have hob : s'.obj i = (obOf objs1 j).ren ren := by rw [← hji]; exact hs'o j hj
      rw [hob]
      cases em : emap p.emb j with
      | none =>
        have : ren j = n + j := by simp only [ren, renOf, em]
        have hfr : s.obj i = .free := by rw [← hji, this]; exact (hnew j hj em).1
        obtain ⟨o, ho, hm⟩ := obj_inval' ids s i
        rw [hfr] at hm
        simp only at hm
        rw [show s1.obj i = o from ho, hm]
        trivial
      | some id =>
        have hid : id = i := by rw [← hji]; simp only [ren, renOf, em]
        subst hid
        have he := emap_some.1 em
        obtain ⟨c1, c2, c3⟩ := callI_some (ι := ι) (R := R) he
        obtain ⟨o, k1, k2⟩ := hp.som j id he
        have hx := hpost.ext j
        rw [obOf_get k1] at hx
        obtain ⟨o1, ho1, hm⟩ := obj_inval' ids s id
        rw [show s1.obj id = o1 from ho1]
        rcases k2 with ⟨own, sz, es, k3, rfl⟩ | ⟨cs, cs', k3, rfl, _⟩ | ⟨nn, kk, f, k3, rfl⟩
        · rw [k3] at hm
          simp only at hm
          rw [hm]
          cases e4 : obOf objs1 j with
          | free => rw [e4] at hx; exact hx.elim
          | dead => trivial
          | box _ => rw [e4] at hx; exact hx.elim
          | arr own' sz' es' =>
            rw [e4] at hx
            refine ⟨by rw [e2, hx.1, c2], hx.2.1, fun hk => (hk (mem_somes.2 (List.mem_of_getElem? he))).elim⟩
          | map _ _ _ => rw [e4] at hx; exact hx.elim
        · rw [k3] at hm
          simp only at hm
          obtain ⟨cs2, rfl⟩ := hm
          cases e4 : obOf objs1 j with
          | free => rw [e4] at hx; exact hx.elim
          | dead => trivial
          | box _ => rw [e4] at hx; show ι'.blk id = ι.blk id; rw [e1, ← c1]; exact hx
          | arr _ _ _ => rw [e4] at hx; exact hx.elim
          | map _ _ _ => rw [e4] at hx; exact hx.elim
        · rw [k3] at hm
          simp only at hm
          rw [hm]
          cases e4 : obOf objs1 j with
          | free => rw [e4] at hx; exact hx.elim
          | dead => trivial
          | box _ => rw [e4] at hx; exact hx.elim
          | arr _ _ _ => rw [e4] at hx; exact hx.elim
          | map nn' k' f' =>
            rw [e4] at hx
            refine ⟨by rw [e1, hx.1, c1], hx.2.1, hx.2.2.1, fun hk => (hk (mem_somes.2 (List.mem_of_getElem? he))).elim⟩
  have htr : Tr ren ι1 (obOf objs1) ι' s'.obj := by
    refine ⟨fun j hj => ?_⟩
    have hjl : j < L := by
      rcases Nat.lt_or_ge j objs1.length with hlt | hge
      · exact hlt
      · simp [notFree, obOf, List.getElem?_eq_none hge] at hj
    have hi := hinv1 j hjl
    exact ⟨hs'o j hjl, by simp only [ι', hi], by simp only [ι', hi], fun b => by simp only [ι', hi]⟩
  have hGc : ∀ {q : Prop}, (objs1.all Ob.noG = true ∧ res.acs.all AC.noG = true → q) → q ∨ ∀ b, ι1.G b → ι'.G b := by
    intro q hq
    by_cases hc : p.lent = [] ∧ R = ι.G
    · right; intro b hb; show G'' b; simp only [G'', if_pos hc]; exact hb
    · exact .inl (hq (hG.resolve_left hc))
  refine ⟨ι', ?_, AVRel.tr htr (hGc fun hq => hq.2) hpost.val, hext⟩
  refine Rel.step h1 hext (fun t => .inl ⟨?_, fun c hc i hi => ?_⟩) ?_ ?_ (fun i => ?_) ?_ ?_ ?_ ?_ ?_ ?_ hpost.size hpost.os hpost.out (hG := fun b hb => ?_)
  · show s'.regs.getD t _ = s1.regs.getD t _; rw [hregs]
  · rw [show s1 = s.inval ids from rfl] at hc
    cases hids : ids with
    | nil => simp
    | cons x l => rw [hids, reg_inval] at hc; exact invAV_src _ hc hi
  · show s'.regs.length = s1.regs.length; rw [hregs]
  · exact updObs_m _ _
  · cases hi : inv i with
    | none =>
      left
      refine ⟨hs'n i (hinv2 i hi), ⟨by simp only [ι', hi], by simp only [ι', hi], fun b => by simp only [ι', hi], fun b hb => hunp i b hi hb⟩, fun c hc k hk => ?_⟩
      cases hids : ids with
      | nil => simp
      | cons x l =>
        rw [show s1 = s.inval ids from rfl, hids, obj_inval] at hc
        cases ho : s.obj i with
        | box cs => rw [ho] at hc; simp [invOb, Ob.acs] at hc; obtain ⟨y, _, rfl⟩ := hc; exact invAC_src _ hk
        | free => rw [ho] at hc; simp [invOb, Ob.acs] at hc
        | dead => rw [ho] at hc; simp [invOb, Ob.acs] at hc
        | map _ _ _ => rw [ho] at hc; simp [invOb, Ob.acs] at hc
        | arr _ _ _ => rw [ho] at hc; simp [invOb, Ob.acs] at hc
    | some j =>
      right
      obtain ⟨hj, hji⟩ := hinv3 i j hi
      by_cases hfree : obOf objs1 j = .free
      · have : s'.obj i = .free := by rw [← hji, hs'o j hj, hfree]; rfl
        rw [this]
        intro b hb
        simp only [ι', hi] at hb
        have := hpost.obj j
        rw [hfree] at this
        exact this b hb
      · have hnf : notFree (obOf objs1) j := by unfold notFree; cases e : obOf objs1 j <;> first | exact hfree e | trivial
        rw [← hji]
        refine ObRel.tr htr hnf (hGc fun hq => ?_) (hpost.obj j)
        have hg : objs1[j]? = some (obOf objs1 j) := by simp [obOf, List.getElem?_eq_getElem (show j < objs1.length from hj)]
        exact (List.all_eq_true.1 hq.1) _ (List.mem_of_getElem? hg)
  · intro i k b hik hi hk
    rcases hfp i b hi with ⟨j, _, e1, f1⟩ | ⟨e1, f1⟩ <;> rcases hfp k b hk with ⟨j', _, e2, f2⟩ | ⟨e2, f2⟩
    · exact hpost.disj j j' b (fun e => hik (by rw [← e1, ← e2, e])) f1 f2
    · rcases hpost.own j b f1 with h2 | h2
      · obtain ⟨id, hm, hf⟩ := hcfp b h2
        exact h.disj id k b (fun e => hnp k e2 (e ▸ hm)) hf f2
      · have := h.lt k b f2; omega
    · rcases hpost.own j' b f2 with h2 | h2
      · obtain ⟨id, hm, hf⟩ := hcfp b h2
        exact h.disj id i b (fun e => hnp i e1 (e ▸ hm)) hf f1
      · have := h.lt i b f1; omega
    · exact h.disj i k b hik f1 f2
  · intro i b hi hg
    rcases hfp i b hi with ⟨j, _, e1, f1⟩ | ⟨e1, f1⟩
    · exact hG2 j b f1 hg
    · rcases hG1 b hg with h2 | ⟨id, hm, hf⟩ | h2
      · exact h.gfp i b f1 h2
      · exact h.disj i id b (fun e => hnp i e1 (e ▸ hm)) f1 hf
      · have := h.lt i b f1; omega
  · intro i b hi
    rcases hfp i b hi with ⟨j, _, e1, f1⟩ | ⟨e1, f1⟩
    · rcases hpost.own j b f1 with h2 | h2
      · obtain ⟨id, hm, hf⟩ := hcfp b h2
        exact h.own id b hf
      · exact .inr (Nat.le_trans h.size h2)
    · exact h.own i b f1
  · intro i b hi
    rcases hfp i b hi with ⟨j, _, e1, f1⟩ | ⟨e1, f1⟩
    · exact hpost.lt j b f1
    · exact Nat.lt_of_lt_of_le (h.lt i b f1) hpost.size
  · intro b hb
    by_cases hc : p.lent = [] ∧ R = ι.G
    · have : ι1.G b := by have hb' : G'' b := hb; simpa only [G'', if_pos hc] using hb'
      exact hpost.glt b this
    · have : ι.G b := by have hb' : G'' b := hb; simpa only [G'', if_neg hc] using hb'
      exact Nat.lt_of_lt_of_le (h.glt b this) hpost.size
  · intro b hb hM
    refine hframe b (Nat.lt_of_lt_of_le hb h.size) fun id hm hf => ?_
    rcases h.own id b hf with h2 | h2
    · exact hM h2
    · omega
  · rcases hG1 b hb with h2 | ⟨id, _, hf⟩ | h2
    · exact .inl h2
    · exact .inr (.inl ⟨id, hf⟩)
    · exact .inr (.inr h2)

end
end Go.Proofs.Ytamcedjjlokfhaa.Ab
