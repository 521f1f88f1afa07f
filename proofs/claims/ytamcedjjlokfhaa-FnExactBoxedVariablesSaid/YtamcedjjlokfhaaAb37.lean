/- The abstract machine, part 37: the operations on maps are sound. No condition. -/
import Derived.Test.YtamcedjjlokfhaaAb36
namespace Go.Proofs.Ytamcedjjlokfhaa.Ab
open Go Go.MapKept Go.ChangeMaps
set_option linter.unusedVariables false

section
variable {P : Program} {E : Ent} {s : St} {ι : Interp} {a : Act} {w : World}

theorem noBor_reg {id : Nat} (s : St) : ∀ t, ∀ c ∈ ((s.inval [id]).reg t).acs, ∀ i, c.src = some i → i ≠ id := fun t c hc i hi e => by
  rw [reg_inval] at hc
  exact invAV_src _ hc hi (by simp [e])
theorem noBor_box {id : Nat} (s : St) : ∀ k, ∀ c ∈ ((s.inval [id]).obj k).acs, ∀ i, c.src = some i → i ≠ id := fun k c hc i hi e => by
  rw [obj_inval] at hc
  cases hk : s.obj k with
  | box l2 => rw [hk] at hc; simp [invOb, Ob.acs] at hc; obtain ⟨y, _, rfl⟩ := hc; exact invAC_src _ hi (by simp [e])
  | free => rw [hk] at hc; simp [invOb, Ob.acs] at hc
  | dead => rw [hk] at hc; simp [invOb, Ob.acs] at hc
  | map _ _ _ => rw [hk] at hc; simp [invOb, Ob.acs] at hc
  | arr _ _ _ => rw [hk] at hc; simp [invOb, Ob.acs] at hc
theorem map_inval {id : Nat} {nn : Bool} {k : MK} {f : Value → Option Cell} (ho : s.obj id = .map nn k f) : (s.inval [id]).obj id = .map nn k f := by rw [obj_inval, ho]; rfl

theorem ownC_cell {F : Nat → Prop} {v : Value} {c : Cell} {id : Nat} (hn : notFree s.obj id) (h : OwnC w F v c) (hF : ∀ x, F x → ι.fp id x) : CRel w ι s.obj (cellAC (some id) c) v :=
  cellAC_rel (src := some id) (fun i e => by cases e; exact hn) (h.toRd fun x hx => .inr (hF x hx))
theorem normLit_cell {v : Value} {id : Nat} (hn : notFree s.obj id) (h : litOK v) {c : Cell} (hc : c = normLit v ∨ c = .any) : CRel w ι s.obj (cellAC (some id) c) v := by
  rcases hc with rfl | rfl
  · exact ownC_cell hn (normLit_own (F := fun _ => False) h) (fun _ h => h.elim)
  · exact ⟨trivial, h.one⟩

def takeRel (w : World) (ι : Interp) (id : Nat) (F : Nat → Prop) (k : MK) (f' : Value → Option Cell) : Bool → Prop
  | true => (∀ b, ¬ ι.fp id b) ∧ ∀ key, IsKey k.d key → Empt k.z (f' key)
  | false => MapRel w k (fun x => ι.fp id x ∧ ¬ F x) (ι.blk id) f'

/-- what a look-up gives, in the relation's words -/
theorem look_rel (h : Rel E s ι a w) {T kt et : TypeId} {m key z : Value} {id : Nat} {nn : Bool} {k : MK} {f : Value → Option Cell} (hob : s.obj id = .map nn k f) (hm : ACRel w ι s.obj (.mref id) m)
    (hT : P.underlying T = some (.map kt et)) (hd : P.underlying kt = some k.d) (hk : IsKey k.d key) (hz : litOK z ∧ ∀ w : World, (zeroValue et).run P w = .ok z w) (hzo : zOK z k.z = true) (ok : Bool) :
    ∃ v F b, (Instr.lookup T m key ok).run P w = .ok (if ok then .tuple #[v, .bool b] else v) w ∧
      ((b = true ∧ nn = false ∧ (∀ x, F x → ι.fp id x ∧ x ≠ ι.blk id) ∧ (∃ c, f key = some c ∧ OwnC w F v c) ∧
        ∀ f', UpdF k.d f f' key (some .any) → takeRel w ι id F k f' nn) ∨ (b = false ∧ v = z ∧ Empt k.z (f key) ∧ (∀ x, ¬ F x) ∧ ∀ f', UpdF k.d f f' key (some .any) → k.z = some z → takeRel w ι id F k f' nn)) := by
  have hmv := hm.2 _ _ _ hob
  have hem : ∀ f' key', IsKey k.d key' → UpdF k.d f f' key (some .any) → k.z = some z → Empt k.z (f key') → Empt k.z (f' key') := by
    intro f' key' hk' hu hkz hek
    by_cases hkk : key' = key
    · subst hkk; rw [hu.1]; exact .inr ⟨z, hkz, hz.1, .inr rfl⟩
    · rw [hu.2 key' hk' hkk]; exact hek
  rcases mapOb h hob with ⟨rfl, h1, h2⟩ | ⟨rfl, es, clock, Fs, h1, h2, h3, h4, h5, h6, h7, h8⟩
  · rcases look_run (w := w) (m := m) (es := #[]) hT hd hk hz.2 (by simp) (.inl ⟨hmv, rfl⟩) ok with ⟨e1, e2⟩ | ⟨j, e, e1, _⟩
    · exact ⟨z, fun _ => False, false, e2, .inr ⟨rfl, rfl, h2 key hk, fun _ h => h, fun f' hu hkz => ⟨h1, fun key' hk' => hem f' key' hk' hu hkz (h2 key' hk')⟩⟩⟩
    · simp at e1
  · rcases look_run (w := w) (m := m) (es := es) hT hd hk hz.2 h5 (.inr ⟨_, clock, hmv, h1⟩) ok with ⟨e1, e2⟩ | ⟨j, e, e1, e2, e3⟩
    · refine ⟨z, fun _ => False, false, e2, .inr ⟨rfl, rfl, h7 key hk e1, fun _ h => h, fun f' hu hkz => ?_⟩⟩
      refine ⟨es, clock, Fs, h1, ⟨h2, fun hx => hx⟩, fun i x hx => ⟨⟨(h3 i x hx).1, fun hx => hx⟩, (h3 i x hx).2⟩, h4, h5, h6, fun key' hk' hne => hem f' key' hk' hu hkz (h7 key' hk' hne), fun i y hy => ?_⟩
      obtain ⟨c', q1, q2⟩ := h8 i y hy
      exact ⟨c', by rw [hu.2 _ (h5 y (Array.mem_toList_iff.2 (Array.mem_of_getElem? hy))) (e1 y (Array.mem_toList_iff.2 (Array.mem_of_getElem? hy)))]; exact q1, q2⟩
    · obtain ⟨c, f1, f2⟩ := h8 j e e1
      refine ⟨e.val, Fs j, true, e3, .inl ⟨rfl, rfl, fun x hx => h3 j x hx, ⟨c, by rw [← e2]; exact f1, f2⟩, fun f' hu => ?_⟩⟩
      refine ⟨es, clock, fun i x => i ≠ j ∧ Fs i x, h1, ⟨h2, fun hx => (h3 j _ hx).2 rfl⟩, fun i x hx => ⟨⟨(h3 i x hx.2).1, h4 i j x hx.1 hx.2⟩, (h3 i x hx.2).2⟩, fun i i' x hne hx hx' => h4 i i' x hne hx.2 hx'.2, h5, h6, fun key' hk' hne => ?_, fun i y hy => ?_⟩
      · rw [hu.2 key' hk' fun e' => hne e (Array.mem_toList_iff.2 (Array.mem_of_getElem? e1)) (e2.trans e'.symm)]
        exact h7 key' hk' hne
      · obtain ⟨c', g1, g2⟩ := h8 i y hy
        by_cases hij : i = j
        · subst hij
          rw [e1] at hy
          cases hy
          exact ⟨.any, by rw [e2]; exact hu.1, .any g2.one⟩
        · have hne : y.key ≠ key := by
            intro e'
            rw [← e2] at e'
            have h9 : (es.toList.map (·.key))[i]? = some y.key := by simp [hy]
            have h10 : (es.toList.map (·.key))[j]? = some e.key := by simp [e1]
            have hlt : i < (es.toList.map (·.key)).length := (List.getElem?_eq_some_iff.1 h9).1
            exact hij ((List.getElem?_inj hlt h6).1 (by rw [h9, h10, e']))
          exact ⟨c', by rw [hu.2 _ (h5 y (Array.mem_toList_iff.2 (Array.mem_of_getElem? hy))) hne]; exact g1, OwnC.wide g2 fun x hx => ⟨hij, hx⟩⟩

/-- a slice is taken out of a map -/
theorem Rel.takeMap (h : Rel E s ι a w) {id n : Nat} {nn : Bool} {k : MK} {f f' : Value → Option Cell} (hob : s.obj id = .map nn k f) (hreg : ∀ t, ∀ c ∈ (s.reg t).acs, ∀ i, c.src = some i → i ≠ id)
    (hbox : ∀ k, ∀ c ∈ (s.obj k).acs, ∀ i, c.src = some i → i ≠ id) (hf : s.obj n = .free) (hn : n < s.objs.length) {v : Value} {F : Nat → Prop} {es : List (List Cell)} {sz : Nat}
    (hF : ∀ x, F x → ι.fp id x) (ha : ArrRel w (Nest w ι.G true) sz F v es) (h1 : v.oneCell' = true)
    (hm : takeRel w ι id F k f' nn) :
    ∃ ι', Rel E ((s.setOb id (.map nn k f')).setOb n (.arr true sz es)) ι' a w ∧ SVRel w ι' ((s.setOb id (.map nn k f')).setOb n (.arr true sz es)).obj (.one (.ref n)) v := by
  have hidl : id < s.objs.length := lt_of_obj hob (by simp)
  have hidn : id ≠ n := fun e => by rw [e, hf] at hob; cases hob
  have hobj : ∀ x, ((s.setOb id (.map nn k f')).setOb n (.arr true sz es)).obj x = if x = n then .arr true sz es else if x = id then .map nn k f' else s.obj x := by
    intro x
    rw [obj_setOb (by rw [setOb_length]; exact hn), obj_setOb hidl]
  let ι' : Interp := { ι with sl := fun x => if x = n then v else ι.sl x, fp := fun x b => if x = n then F b else if x = id then ι.fp id b ∧ ¬ F b else ι.fp x b }
  have hx : Ext (fun x => x ≠ id) w ι s.obj w ι' ((s.setOb id (.map nn k f')).setOb n (.arr true sz es)).obj := by
    refine ⟨fun b hb => ⟨hb, rfl⟩, fun x => ?_⟩
    rw [hobj]
    by_cases hk : x = n
    · subst hk; rw [if_pos rfl, hf]; trivial
    · rw [if_neg hk]
      by_cases hk2 : x = id
      · subst hk2; rw [if_pos rfl, hob]; exact ⟨rfl, rfl, rfl, fun hk => (hk rfl).elim⟩
      · rw [if_neg hk2]
        cases hkk : s.obj x with
        | free => trivial
        | dead => trivial
        | box cs => rfl
        | arr o1 s1 e1 => exact ⟨by simp only [ι', if_neg hk], rfl, fun _ b hb => ⟨.inl (by simp only [ι', if_neg hk, if_neg hk2]; exact hb), rfl⟩⟩
        | map _ _ _ => exact ⟨rfl, rfl, rfl, fun _ b hb => ⟨.inl (by simp only [ι', if_neg hk, if_neg hk2]; exact hb), rfl⟩⟩
  have hfp : ∀ x b, ι'.fp x b → (x = n ∧ F b) ∨ (x = id ∧ ι.fp id b ∧ ¬ F b) ∨ (x ≠ n ∧ x ≠ id ∧ ι.fp x b) := by
    intro x b hb
    simp only [ι'] at hb
    split at hb
    · exact .inl ⟨‹_›, hb⟩
    · split at hb
      · exact .inr (.inl ⟨‹_›, hb⟩)
      · exact .inr (.inr ⟨‹_›, ‹_›, hb⟩)
  have hold : ∀ x b, ι'.fp x b → ∃ y, ι.fp y b := by
    intro x b hb
    rcases hfp x b hb with ⟨_, hb⟩ | ⟨_, hb, _⟩ | ⟨_, _, hb⟩
    · exact ⟨id, hF b hb⟩
    · exact ⟨id, hb⟩
    · exact ⟨x, hb⟩
  refine ⟨ι', ?_, ⟨by unfold notFree; rw [hobj, if_pos rfl]; trivial, fun _ _ _ _ => by simp only [ι', if_true]⟩, fun _ => h1⟩
  refine Rel.step h hx (fun t => .inl ⟨rfl, fun c hc i hi => hreg t c hc i hi⟩) rfl rfl (fun x => ?_) ?_ ?_ ?_ ?_ h.glt (fun _ _ _ => rfl) (Nat.le_refl _) rfl rfl
  · by_cases hk : x = n
    · right; rw [hobj, if_pos hk, hk]
      show ArrRel w (Nest w ι.G true) sz (ι'.fp n) (ι'.sl n) es
      have e1 : ι'.sl n = v := by simp only [ι', if_true]
      have e2 : ι'.fp n = F := by funext b; simp only [ι', if_true]
      rw [e1, e2]; exact ha
    · by_cases hk2 : x = id
      · right; rw [hobj, if_neg hk, if_pos hk2, hk2]
        cases nn with
        | true => exact ⟨fun b hb => hm.1 b (by simp only [ι', if_neg hidn, if_true] at hb; exact hb.1), hm.2⟩
        | false =>
          show MapRel w k (ι'.fp id) (ι.blk id) f'
          have e2 : ι'.fp id = fun x => ι.fp id x ∧ ¬ F x := by funext b; simp only [ι', if_neg hidn, if_true]
          rw [e2]; exact hm
      · left
        rw [hobj, if_neg hk, if_neg hk2]
        exact ⟨rfl, ⟨rfl, by simp only [ι', if_neg hk], fun b => by simp only [ι', if_neg hk, if_neg hk2], fun _ _ => rfl⟩, fun c hc i hi => hbox x c hc i hi⟩
  · intro x y b hne hx1 hy1
    rcases hfp x b hx1 with ⟨rfl, f1⟩ | ⟨rfl, f1, g1⟩ | ⟨n1, n2, f1⟩ <;> rcases hfp y b hy1 with ⟨rfl, f2⟩ | ⟨rfl, f2, g2⟩ | ⟨m1, m2, f2⟩
    · exact hne rfl
    · exact g2 f1
    · exact h.disj id y b (fun e => m2 e.symm) (hF b f1) f2
    · exact g1 f2
    · exact hne rfl
    · exact h.disj x y b hne f1 f2
    · exact h.disj x id b n2 f1 (hF b f2)
    · exact h.disj x y b hne f1 f2
    · exact h.disj x y b hne f1 f2
  · intro x b hb hg
    obtain ⟨y, hy⟩ := hold x b hb
    exact h.gfp y b hy hg
  · intro x b hb
    obtain ⟨y, hy⟩ := hold x b hb
    exact h.own y b hy
  · intro x b hb
    obtain ⟨y, hy⟩ := hold x b hb
    exact h.lt y b hy

theorem eLookup_sound (h : Rel E s ι a w) {o : Oper} {T : TypeId} {m x : Operand} {ok : Bool} (ho : o.op = .lookup T m x ok) {n : Nat} {r : Res} {q q' : List Orc} {it : List Item} {K : Prop}
    (e : eLookup P s T m x ok n q = some (r, it, q')) (vc : VC it K) (hroom : Room s n r.new.length) : EOK P E s a w o n r ∧ K := by
  unfold eLookup at e
  split at e
  · rename_i id hm
    split at e
    · rename_i nn k f key d kt et hob hkey hT
      split at e
      · rename_i z hz
        split at e
        · rename_i hc
          simp only [Bool.and_eq_true] at hc
          obtain ⟨⟨hc1, hc2⟩, hc3⟩ := hc
          obtain ⟨t1, t2⟩ := tmap_ok hT
          have hde := sameD_ok hc1
          rw [← hde] at t2
          have hik : IsKey k.d key := by rw [hde]; exact keyB_ok hc2
          have hzz := tzero_ok hz
          have hnf : notFree s.obj id := (ac_rel h hm).1
          have hke := (lit_rel h hkey).1
          split at e
          · rename_i c q1
            simp only [Option.some.injEq, Prod.mk.injEq] at e
            obtain ⟨rfl, rfl, rfl⟩ := e
            obtain ⟨hl, hK⟩ := vc
            refine ⟨?_, hK⟩
            obtain ⟨v, F, b, hrun, hv⟩ := look_rel (P := P) h hob (ac_rel h hm) t1 t2 hik hzz hc3 false
            refine EOK.value (ι' := ι) (w' := w) (v := v) ?_ h ?_
            · simp only [execOp, ho, hke]
              exact run_v _ (by simpa using hrun)
            · have hcr : CRel w ι s.obj (cellAC (some id) c) v := by
                rcases hv with ⟨_, _, hF, ⟨c', hf, ho'⟩, _⟩ | ⟨_, rfl, he, _⟩
                · rcases hl with hl | ⟨hl, _⟩ <;> rw [hf] at hl <;> cases hl
                  exact ownC_cell hnf ho' fun x hx => (hF x hx).1
                · exact normLit_cell hnf hzz.1 (empt_look hc3 he hl)
              exact ⟨hcr.1, fun _ => hcr.2⟩
          · rename_i c b0 q1
            split at e
            · rename_i hkz
              simp only [Option.some.injEq, Prod.mk.injEq] at e
              obtain ⟨rfl, rfl, rfl⟩ := e
              obtain ⟨hl, hK⟩ := vc
              refine ⟨?_, hK⟩
              obtain ⟨v, F, b, hrun, hv⟩ := look_rel (P := P) h hob (ac_rel h hm) t1 t2 hik hzz hc3 true
              have key' : b0 = b ∧ CRel w ι s.obj (cellAC (some id) c) v := by
                rcases hv with ⟨rfl, _, hF, ⟨c', hf, ho'⟩, _⟩ | ⟨rfl, rfl, he, _⟩
                · rcases hl with ⟨hl, rfl⟩ | ⟨hl, _⟩ <;> rw [hf] at hl <;> cases hl
                  exact ⟨rfl, ownC_cell hnf ho' fun x hx => (hF x hx).1⟩
                · rcases he with he | ⟨v, he, _⟩
                  · rcases hl with ⟨hl, _⟩ | ⟨hl, rfl, rfl⟩
                    · rw [he] at hl; cases hl
                    · exact ⟨rfl, normLit_cell hnf hzz.1 (.inl rfl)⟩
                  · rw [hkz] at he; cases he
              obtain ⟨rfl, hcr⟩ := key'
              refine EOK.value (ι' := ι) (w' := w) (v := .tuple #[v, .bool b0]) ?_ h ?_
              · simp only [execOp, ho, hke]
                exact run_v _ (by simpa using hrun)
              · exact ⟨_, rfl, ⟨hcr.1, fun _ => hcr.2⟩, ⟨.lit trivial, fun _ => rfl⟩, trivial⟩
            · cases e
          · rename_i es sz f' q1
            simp only [Option.some.injEq, Prod.mk.injEq] at e
            obtain ⟨rfl, rfl, rfl⟩ := e
            obtain ⟨hl, hu, hkz, hsz, hK⟩ := vc
            refine ⟨?_, hK⟩
            have h1 := h.inval [id]
            have hob1 := map_inval hob
            obtain ⟨hfr, hnl⟩ := hroom n (Nat.le_refl _) (by simp)
            have hfr1 : (s.inval [id]).obj n = .free := by rw [obj_inval, hfr]; rfl
            have hnl1 : n < (s.inval [id]).objs.length := by rw [inval_length]; exact hnl
            obtain ⟨v, F, b, hrun, hv⟩ := look_rel (P := P) h hob (ac_rel h hm) t1 t2 hik hzz hc3 false
            have hko : ∃ F', (∀ x, F' x → ι.fp id x) ∧ OwnC w F' v (.list es) ∧ takeRel w ι id F' k f' nn := by
              rcases hv with ⟨_, _, hF, ⟨c', hf, ho'⟩, hM⟩ | ⟨_, rfl, he, hFn, hM⟩
              · rcases hl with hl | ⟨hl, _⟩ <;> rw [hf] at hl <;> cases hl
                exact ⟨F, fun x hx => (hF x hx).1, ho', hM f' hu⟩
              · have hes : Cell.list es = normLit v := by
                  rcases empt_look hc3 he hl with e | e
                  · exact e
                  · cases e
                exact ⟨F, fun x hx => (hFn x hx).elim, by rw [hes]; exact normLit_own hzz.1, hM f' hu hkz⟩
            obtain ⟨F', k1, k2, k3⟩ := hko
            obtain ⟨ι', k4, k5⟩ := Rel.takeMap h1 hob1 (noBor_reg s) (noBor_box s) hfr1 hnl1 k1 (OwnC.arrRel k2 hsz) k2.one k3
            refine EOK.value (ι' := ι') (w' := w) (v := v) ?_ k4 k5
            simp only [execOp, ho, hke]
            exact run_v _ (by simpa using hrun)
          · cases e
        · cases e
      · cases e
    · cases e
  · cases e

theorem Rel.newMap (h : Rel E s ι a w) {n : Nat} (hf : s.obj n = .free) (hn : n < s.objs.length) {k : MK} {f : Value → Option Cell} (he : ∀ key, IsKey k.d key → Empt k.z (f key)) :
    ∃ ι', Rel E (s.setOb n (.map false k f)) ι' a (w.alloc (.map #[] 0)) ∧ SVRel (w.alloc (.map #[] 0)) ι' (s.setOb n (.map false k f)).obj (.one (.mref n)) (.map (some w.heap.size)) := by
  let ι' : Interp := { ι with blk := fun i => if i = n then w.heap.size else ι.blk i, fp := fun i b => if i = n then b = w.heap.size else ι.fp i b }
  have hsz : (w.alloc (.map #[] 0)).heap.size = w.heap.size + 1 := by show (w.heap.push _).size = _; simp
  refine ⟨ι', Rel.fresh h hf hn _ rfl (fun i hi => by simp [ι', hi]) (fun b hb => ?_) (fun b hb => heap_alloc_lt w _ b hb) (by omega) rfl rfl ?_, ⟨?_, fun nn k' f' e => ?_⟩, fun _ => rfl⟩
  · simp only [ι', if_true] at hb; omega
  · show MapRel _ k (ι'.fp n) (ι'.blk n) f
    refine ⟨#[], 0, fun _ _ => False, ?_, ?_, by simp, by simp, by simp, by simp, fun key hk _ => he key hk, by simp⟩
    · simp only [ι', if_true]; exact (MapKept.heap_alloc w _).1
    · simp only [ι', if_true]
  · unfold notFree; rw [obj_setOb hn, if_pos rfl]; trivial
  · rw [obj_setOb hn, if_pos rfl] at e
    cases e
    simp [mapV, ι']

theorem eMakeMap_sound (h : Rel E s ι a w) {o : Oper} {T : TypeId} {hint : Option Operand} (ho : o.op = .makeMap T hint) {n : Nat} {r : Res} {q q' : List Orc} {it : List Item} {K : Prop}
    (e : eMakeMap P T hint n q = some (r, it, q')) (vc : VC it K) (hroom : Room s n r.new.length) : EOK P E s a w o n r ∧ K := by
  unfold eMakeMap at e
  split at e
  · rename_i k q1
    split at e
    · rename_i hok
      simp only [Option.some.injEq, Prod.mk.injEq] at e
      obtain ⟨rfl, rfl, rfl⟩ := e
      refine ⟨?_, vc⟩
      obtain ⟨hfr, hnl⟩ := hroom n (Nat.le_refl _) (by simp)
      obtain ⟨ι', k4, k5⟩ := h.newMap hfr hnl fun key _ => emptyF_ok hok key
      refine EOK.value (ι' := ι') (w' := w.alloc (.map #[] 0)) (v := .map (some w.heap.size)) ?_ k4 k5
      simp only [execOp, ho]
      exact run_v _ rfl
    · cases e
  · cases e

theorem absorb_one (h : Rel E s ι a w) {v : AC} {x : Value} {c : Cell} {ids : List Nat} (e : absorbOwn s [v] = some ([c], ids)) (hv : CRel w ι s.obj v x) :
    (∀ j ∈ ids, isArr (s.obj j)) ∧ ∃ F : Nat → Prop, (∀ b, F b → ∃ j ∈ ids, ι.fp j b) ∧ OwnC w F x c := by
  obtain ⟨h1, h2, Fs, h3, h4, h5⟩ := absorbOwn_ok h e (vs := [x]) ⟨hv, trivial⟩
  exact ⟨h1, Fs 0, fun b hb => h3 0 b hb, h5 0 x c rfl rfl⟩

theorem eMapUpdate_sound (h : Rel E s ι a w) {o : Oper} {T : TypeId} {m x y : Operand} (ho : o.op = .mapUpdate T m x y ∨ o.op = .insert T m x y) {n : Nat} {r : Res} {q q' : List Orc} {it : List Item} {K : Prop}
    (e : eMapUpdate P s T m x y q = some (r, it, q')) (vc : VC it K) : EOK P E s a w o n r ∧ K := by
  unfold eMapUpdate at e
  split at e
  · rename_i id f' q1 hm
    split at e
    · rename_i nn k f key d kt et v hob hkey hT hy
      split at e
      · rename_i hc
        simp only [Bool.and_eq_true] at hc
        obtain ⟨hc1, hc2⟩ := hc
        obtain ⟨t1, t2⟩ := tmap_ok hT
        have hde := sameD_ok hc1
        rw [← hde] at t2
        have hik : IsKey k.d key := by rw [hde]; exact keyB_ok hc2
        have hke := (lit_rel h hkey).1
        split at e
        · rename_i c ids hab
          split at e
          · rename_i hnin
            simp only [Option.some.injEq, Prod.mk.injEq] at e
            obtain ⟨rfl, rfl, rfl⟩ := e
            obtain ⟨hnn, hu, hK⟩ := vc
            subst hnn
            refine ⟨?_, hK⟩
            have hyr := ac_rel h hy
            have hvt : v ≠ .top := fun e => by rw [e] at hab; simp [absorbOwn] at hab
            have hy1 : (a.eval y).oneCell' = true := by
              have := ev_rel h (x := y) (v := .sv (.one v)) (by
                unfold St.ac at hy
                split at hy
                · rename_i c' hc'; cases hy; exact hc'
                · cases hy)
              exact this.2 hvt
            obtain ⟨a1, F2, a2, a3⟩ := absorb_one h hab ⟨hyr, hy1⟩
            have hmv := (ac_rel h hm).2 _ _ _ hob
            have hmr : MapRel w k (ι.fp id) (ι.blk id) f := by have := h.objs id; rw [hob] at this; exact this
            have hfpb : ι.fp id (ι.blk id) := by obtain ⟨_, _, _, _, h2, _⟩ := hmr; exact h2
            have hnid : id ∉ ids := by simpa using hnin
            have hF2 : ∀ z, F2 z → ¬ ι.fp id z := fun z hz hz' => by
              obtain ⟨j, hj, hjz⟩ := a2 z hz
              exact h.disj j id z (fun e => hnid (e ▸ hj)) hjz hz'
            obtain ⟨es, clock, es', clock', k1, k2, k3, k4⟩ := MapRel.put (T := T) (kt := kt) (et := et) hmr t1 t2 hik a3 hF2 (fun hb => hF2 _ hb hfpb) hu
            have h1 := h.inval [id]
            obtain ⟨ι', k5⟩ := Rel.setMap h1 (map_inval hob) (noBor_reg s) (noBor_box s) (ids := ids) (fun j hj => killed_inval ids id s j (a1 j hj)) hnid k1 k2
              (k4.mono (fun x hx => hx.imp (fun h => h) (a2 x)) fun _ _ => rfl)
            refine EOK.skip (ι' := ι') (w' := setBlock w (ι.blk id) (.map es' clock')) ?_ ?_ top_rel
            · have hmm : a.eval m = .map (some (ι.blk id)) := hmv
              rcases ho with ho | ho <;> simp only [execOp, ho, hke, hmm] <;> rw [Sem.run_bind, k3] <;> rfl
            · simp only [St.app, St.setObs, updObs_append]
              exact k5
          · cases e
        · cases e
      · cases e
    · cases e
  · cases e

theorem eMapDelete_sound (h : Rel E s ι a w) {o : Oper} {args : Array Operand} {tys : Array TypeId} (ho : o.op = .call { callee := .builtin .delete, args := args, argTypes := tys }) {n : Nat} {r : Res} {q q' : List Orc} {it : List Item} {K : Prop}
    (e : eMapDelete P s args tys q = some (r, it, q')) (vc : VC it K) : EOK P E s a w o n r ∧ K := by
  unfold eMapDelete at e
  split at e
  · rename_i m x T tr f' q1 hargs htys
    split at e
    · rename_i id hm
      split at e
      · rename_i nn k f key d kt et hob hkey hT
        split at e
        · rename_i hc
          simp only [Bool.and_eq_true] at hc
          obtain ⟨hc1, hc2⟩ := hc
          obtain ⟨t1, t2⟩ := tmap_ok hT
          have hde := sameD_ok hc1
          rw [← hde] at t2
          have hik : IsKey k.d key := by rw [hde]; exact keyB_ok hc2
          have hke := (lit_rel h hkey).1
          simp only [Option.some.injEq, Prod.mk.injEq] at e
          obtain ⟨rfl, rfl, rfl⟩ := e
          obtain ⟨hnn, hu, hK⟩ := vc
          subst hnn
          refine ⟨?_, hK⟩
          have hmv := (ac_rel h hm).2 _ _ _ hob
          have hmr : MapRel w k (ι.fp id) (ι.blk id) f := by have := h.objs id; rw [hob] at this; exact this
          have htt : tys[0]? = some T := by
            have : tys.toList[0]? = some T := by rw [htys]; rfl
            simpa using this
          obtain ⟨es, clock, es', clock', k1, k2, k3, k4⟩ := MapRel.del (tys := tys) (ty := o.type) hmr htt t1 t2 hik hu
          have h1 := h.inval [id]
          obtain ⟨ι', k5⟩ := Rel.setMap h1 (map_inval hob) (noBor_reg s) (noBor_box s) (ids := []) (by simp) (by simp) k1 k2
            (k4.mono (fun x hx => .inl hx) fun _ _ => rfl)
          refine EOK.value (ι' := ι') (w' := setBlock w (ι.blk id) (.map es' clock')) (v := .tuple #[]) ?_ k5 top_rel
          have hargs' : args = #[m, x] := by rw [← Array.toArray_toList (xs := args), hargs]
          have hmm : a.eval m = .map (some (ι.blk id)) := hmv
          simp only [execOp, ho, hargs', resolve, Sem.run_bind, Sem.run_pure, Result.andThen_ok, invoke, builtin]
          simp [hmm, hke, k3]
        · cases e
      · cases e
    · cases e
  · cases e

theorem equal_map {kt et T : TypeId} (hT : P.underlying T = some (.map kt et)) (o : Option Nat) (w : World) : (Op.equalIn Op.maxDepth T (.map o) (.map none)).run P w = .ok o.isNone w := by
  have hd : Op.maxDepth = (Op.maxDepth - 1) + 1 := rfl
  rw [hd]
  unfold Op.equalIn
  simp only [Sem.run_bind, run_underlying hT, Result.andThen]
  cases o <;> rfl

theorem eMapNil_sound (h : Rel E s ι a w) {o : Oper} {op : BinOp} {T : TypeId} {x y : Operand} {z : TypeId} (ho : o.op = .binOp op T x y z) {n : Nat} {r : Res} (e : eMapNil P s op T x y = some r) : EOK P E s a w o n r := by
  unfold eMapNil at e
  split at e
  · rename_i kt et hT
    split at e
    · rename_i id hx hy
      have hye := (lit_rel h hy).1
      split at e
      · rename_i nn k f hob
        have hmv := (ac_rel h hx).2 _ _ _ hob
        split at e
        · simp only [Option.some.injEq] at e; subst e
          refine EOK.value (ι' := ι) (w' := w) (v := .bool nn) ?_ h (lit1_rel trivial)
          simp only [execOp, ho, hmv, hye]
          refine run_v _ ?_
          cases nn <;> simp [eqGuard, mapV, binOp, Op.equal, equal_map hT, Result.andThen]
        · simp only [Option.some.injEq] at e; subst e
          refine EOK.value (ι' := ι) (w' := w) (v := .bool (!nn)) ?_ h (lit1_rel trivial)
          simp only [execOp, ho, hmv, hye]
          refine run_v _ ?_
          cases nn <;> simp [eqGuard, mapV, binOp, Op.equal, equal_map hT, Result.andThen]
        · cases e
      · cases e
    · rename_i hx hy
      have hye := (lit_rel h hy).1
      have hxe := (lit_rel h (x := x) (v := .map none) (by unfold St.lit; rw [hx])).1
      split at e
      · simp only [Option.some.injEq] at e; subst e
        refine EOK.value (ι' := ι) (w' := w) (v := .bool true) ?_ h (lit1_rel trivial)
        simp only [execOp, ho, hxe, hye]
        refine run_v _ ?_
        simp [eqGuard, binOp, Op.equal, equal_map hT, Result.andThen]
      · simp only [Option.some.injEq] at e; subst e
        refine EOK.value (ι' := ι) (w' := w) (v := .bool false) ?_ h (lit1_rel trivial)
        simp only [execOp, ho, hxe, hye]
        refine run_v _ ?_
        simp [eqGuard, binOp, Op.equal, equal_map hT, Result.andThen]
      · cases e
    · cases e
  · cases e
end
end Go.Proofs.Ytamcedjjlokfhaa.Ab
