/- The abstract machine, part 19: the call as an operation; every operation in one function. No condition. -/
import Derived.Test.YtamcedjjlokfhaaAb37
namespace Go.Proofs.Ytamcedjjlokfhaa.Ab
open Go
set_option linter.unusedVariables false

section
variable {P : Program} {E : Ent} {s : St} {ι : Interp} {a : Act} {w : World}

def evAll (s : St) : List Operand → Option (List AV)
  | [] => some []
  | x :: r => match s.ev x, evAll s r with
    | some v, some l => some (v :: l)
    | _, _ => none

theorem evAll_rel (h : Rel E s ι a w) : ∀ {xs : List Operand} {l : List AV}, evAll s xs = some l → All2 (AVRel w ι s.obj) l (xs.map a.eval)
  | [], l, e => by simp only [evAll, Option.some.injEq] at e; subst e; trivial
  | x :: xs, l, e => by
    simp only [evAll] at e
    split at e
    · rename_i v l' h1 h2
      simp only [Option.some.injEq] at e; subst e
      exact ⟨ev_rel h h1, evAll_rel h h2⟩
    · cases e

def callSlots : Nat := 8

def eCall (P : Program) (s : St) (f : FuncId) (args : Array Operand) (n : Nat) (q : List Orc) : Option (Res × List Item × List Orc) :=
  match q with
  | .call ms objs1 res :: q => match evAll s args.toList with
    | some avs => match passAll s {} ms avs with
      | some p => if p.lent.all (fun i => !p.emb.elem (some i)) = true ∧ objs1.length ≤ callSlots ∧ (p.lent = [] ∨ (objs1.all Ob.noG = true ∧ res.acs.all AC.noG = true)) then
          some ({ val := res.ren (renOf p.emb n), upd := backUpd p.emb n objs1, inv := somes p.emb }, [.obl (CallOK P f p.objs p.args objs1 res)], q) else none
      | none => none
    | none => none
  | _ => none

theorem callAV_wp (h : Rel E s ι a w) {o : Oper} {f : FuncId} {args : Array Operand} {tys : Array TypeId} (ho : o.op = .call { callee := .value (.func f), args := args, argTypes := tys }) {n : Nat}
    {ms : List Mode} {avs : List AV} {p : Pass} {objs1 : List Ob} {res : AV} (hp : passAll s {} ms avs = some p) (hav : All2 (AVRel w ι s.obj) avs (args.toList.map a.eval)) (hlent : p.lent.all (fun i => !p.emb.elem (some i)) = true)
    (hG : p.lent = [] ∨ (objs1.all Ob.noG = true ∧ res.acs.all AC.noG = true)) (hcall : CallOK P f p.objs p.args objs1 res) (hroom' : Room s n objs1.length)
    {next : Act → World → Prop} {Q : Exit → Act → World → Prop}
    (k : ∀ ι' v w', Rel E ((s.inval (somes p.emb)).updObs (backUpd p.emb n objs1)) ι' a w' → AVRel w' ι' ((s.inval (somes p.emb)).updObs (backUpd p.emb n objs1)).obj (res.ren (renOf p.emb n)) v →
      Ext (fun i => i ∉ somes p.emb) w ι (s.inval (somes p.emb)).obj w' ι' ((s.inval (somes p.emb)).updObs (backUpd p.emb n objs1)).obj → next (a.put o.dst v) w') : o.wp P a w next Q := by
  obtain ⟨ok, zs, hz, hargs⟩ := passAll_ok (ys := []) (PassOK.nil s) hp trivial
  simp only [List.nil_append] at hargs
  have hl : ∀ i ∈ p.lent, some i ∉ p.emb := fun i hi => by simpa using (List.all_eq_true.1 hlent) i hi
  have hvals : All2 (SVRel w ι s.obj) zs (args.map a.eval).toList := by
    have := hav
    rw [hz] at this
    rw [Array.toList_map]
    have conv : ∀ {l : List SV} {vs : List Value}, All2 (AVRel w ι s.obj) (l.map .sv) vs → All2 (SVRel w ι s.obj) l vs := by
      intro l
      induction l with
      | nil => intro vs hv; cases vs with | nil => trivial | cons => exact hv.elim
      | cons x l ih => intro vs hv; cases vs with
        | nil => exact hv.elim
        | cons v vs => exact ⟨hv.1, ih hv.2⟩
    exact conv this
  have hrun : (execOp a.eval o).run P w = .ok (.enter f (args.map a.eval)) w := by
    have := hcall.1 (args.map a.eval) w
    simp [execOp, ho, resolve, Act.eval, Deferred.ofValue, invoke, this]
  simp only [Oper.wp, hrun, Oper.upon_enter]
  by_cases hl0 : p.lent = []
  · have hpre := pre_of_pass (R := ι.G) h ok (fun _ hb => hb) (by simp [hl0]) (fun _ hb => .inl hb) hargs hvals
    refine (hcall.2 w _ _ hpre).mono ?_
    rintro e w' ⟨v, ι1, rfl, hpost⟩
    obtain ⟨ι', k1, k2, k3⟩ := call_rel h ok (fun _ hb => .inl hb) hroom' hpost (.inl ⟨hl0, rfl⟩)
    exact k ι' v w' k1 k2 k3
  · have hG' := hG.resolve_left hl0
    have hpre := pre_of_pass (R := fun b => ι.G b ∨ ∃ id, some id ∉ p.emb ∧ ι.fp id b) h ok (fun _ hb => .inl hb) (fun i hi b hb => .inr ⟨i, hl i hi, hb⟩) (fun _ hb => hb) hargs hvals
    refine (hcall.2 w _ _ hpre).mono ?_
    rintro e w' ⟨v, ι1, rfl, hpost⟩
    obtain ⟨ι', k1, k2, k3⟩ := call_rel h ok (fun _ hb => hb) hroom' hpost (.inr hG')
    exact k ι' v w' k1 k2 k3

theorem eCall_sound (h : Rel E s ι a w) {o : Oper} {f : FuncId} {args : Array Operand} {tys : Array TypeId} (ho : o.op = .call { callee := .value (.func f), args := args, argTypes := tys }) {n : Nat} {r : Res} {q q' : List Orc}
    {it : List Item} {K : Prop} (e : eCall P s f args n q = some (r, it, q')) (vc : VC it K) (hroom : Room s n callSlots) : EOK P E s a w o n r ∧ K := by
  unfold eCall at e
  split at e
  · rename_i ms objs1 res q1
    split at e
    · rename_i avs hav
      split at e
      · rename_i p hp
        split at e
        · rename_i hc
          obtain ⟨hlent, hlen, hG⟩ := hc
          simp only [Option.some.injEq, Prod.mk.injEq] at e
          obtain ⟨rfl, rfl, rfl⟩ := e
          obtain ⟨hcall, hK⟩ := vc
          refine ⟨?_, hK⟩
          intro next Q k
          exact callAV_wp h ho hp (evAll_rel h hav) hlent hG hcall (fun i h1 h2 => hroom i h1 (by omega)) fun ι' v w' k1 k2 _ => k ι' v w' k1 k2
        · cases e
      · cases e
    · cases e
  · cases e

/-! ### a call that is handed an array inside an array -/
def findSub (n : Nat) : List AV → Option ((Nat × Nat × Nat) × List AV)
  | [] => none
  | .sv (.one (.sub id i p)) :: r => some ((id, i, p), .sv (.one (.ref n)) :: r)
  | x :: r => match findSub n r with
    | some (k, r') => some (k, x :: r')
    | none => none

def okArg (id : Nat) (x : AV) : Bool := x.acs.all fun c => match c.src with | some k => !(Nat.beq k id) | none => true

theorem findSub_rel {R R' : AV → Value → Prop} {n : Nat} : ∀ {avs avs1 : List AV} {vs : List Value} {k : Nat × Nat × Nat}, findSub n avs = some (k, avs1) → All2 R avs vs →
    (∀ v, R (.sv (.one (.sub k.1 k.2.1 k.2.2))) v → R' (.sv (.one (.ref n))) v) → (∀ x ∈ avs1, ∀ v, R x v → R' x v) → (∃ v, R (.sv (.one (.sub k.1 k.2.1 k.2.2))) v) ∧ All2 R' avs1 vs
  | [], _, _, _, e, _, _, _ => by simp [findSub] at e
  | x :: r, avs1, [], _, _, ha, _, _ => ha.elim
  | x :: r, avs1, v :: vs, k, e, ha, h1, h2 => by
    unfold findSub at e
    split at e
    · cases ‹_ = [] ›
    · rename_i id i p r' hx
      simp only [List.cons.injEq] at hx
      obtain ⟨rfl, rfl⟩ := hx
      simp only [Option.some.injEq, Prod.mk.injEq] at e
      obtain ⟨rfl, rfl⟩ := e
      refine ⟨⟨v, ha.1⟩, h1 v ha.1, ?_⟩
      exact ha.2.impMem fun y u hy hr => h2 y (List.mem_cons_of_mem _ hy) u hr
    · rename_i y r' _ hx
      simp only [List.cons.injEq] at hx
      obtain ⟨rfl, rfl⟩ := hx
      split at e
      · rename_i k' r2 he
        simp only [Option.some.injEq, Prod.mk.injEq] at e
        obtain ⟨rfl, rfl⟩ := e
        obtain ⟨h3, h4⟩ := findSub_rel he ha.2 h1 fun y hy u hr => h2 y (List.mem_cons_of_mem _ hy) u hr
        exact ⟨h3, h2 _ List.mem_cons_self v ha.1, h4⟩
      · cases e

def litAC : AC → Bool
  | .val (.lit _) => true
  | _ => false

def eCallSub (P : Program) (s : St) (f : FuncId) (args : Array Operand) (n : Nat) (q : List Orc) : Option (Res × List Item × List Orc) :=
  match q with
  | .subcall e es' sz' :: .call ms objs1 res :: q => match evAll s args.toList with
    | some avs => match findSub n avs with
      | some ((id, i, p), avs1) => match s.obj id with
        | .arr true sz es => match passAll (focusSt (s.inval [id]) id n i p sz es e sz' es') {} ms avs1 with
          | some pp => match pp.emb, objs1 with
            | [some m], [.arr true sz2 es2] => if m = n ∧ sz2 = sz' ∧ id ≠ n ∧ p < e.length ∧ avs1.all (okArg id) = true ∧ pp.lent.all (fun i => !pp.emb.elem (some i)) = true ∧ (pp.lent = [] ∨ res.acs.all AC.noG = true) ∧ res.acs.all litAC = true then
                some ({ val := res, new := [.dead], upd := [(id, .arr true sz (es.set i (e.set p (.list es2))))], inv := [id, n] },
                  [.obl (es[i]? = some e), .obl (e[p]? = some (.list es')), .obl (∀ x ∈ es', x.length = sz'), .obl (CallOK P f pp.objs pp.args objs1 res)], q) else none
            | _, _ => none
          | none => none
        | _ => none
      | none => none
    | none => none
  | _ => none

theorem invAC_two (x y : Nat) (c : AC) : invAC [y] (invAC [x] c) = invAC [x, y] c := by
  cases hc : c.src with
  | none => simp [invAC, hc]
  | some k =>
    by_cases h1 : k = x
    · subst h1
      have e1 : invAC [k] c = .top := by simp [invAC, hc]
      have e2 : invAC [k, y] c = .top := by simp [invAC, hc]
      rw [e1, e2]; rfl
    · by_cases h2 : k = y
      · subst h2; simp [invAC, hc, h1]
      · simp [invAC, hc, h1, h2]
theorem invSV_two (x y : Nat) (c : SV) : invSV [y] (invSV [x] c) = invSV [x, y] c := by
  cases c with
  | one c => simp [invSV, invAC_two]
  | agg cs => simp [invSV, invAC_two, Function.comp_def]
theorem invAV_two (x y : Nat) (c : AV) : invAV [y] (invAV [x] c) = invAV [x, y] c := by
  cases c with
  | sv c => simp [invAV, invSV_two]
  | tup cs => simp [invAV, invSV_two, Function.comp_def]
theorem invOb_two (x y : Nat) (o : Ob) : invOb [y] (invOb [x] o) = invOb [x, y] o := by
  cases o <;> simp [invOb, invAC_two, Function.comp_def]

theorem eCallSub_sound (h : Rel E s ι a w) {o : Oper} {f : FuncId} {args : Array Operand} {tys : Array TypeId} (ho : o.op = .call { callee := .value (.func f), args := args, argTypes := tys }) {n : Nat} {r : Res} {q q' : List Orc}
    {it : List Item} {K : Prop} (e : eCallSub P s f args n q = some (r, it, q')) (vc : VC it K) (hroom : Room s n callSlots) : EOK P E s a w o n r ∧ K := by
  unfold eCallSub at e
  split at e
  · rename_i el es' sz' ms objs1 res q1
    split at e
    · rename_i avs hav
      split at e
      · rename_i id i p avs1 hfs
        split at e
        · rename_i sz es hob
          split at e
          · rename_i pp hpp
            split at e
            · rename_i m sz2 es2 hemb
              split at e
              · rename_i hc
                obtain ⟨rfl, rfl, hne, hpl, hargs, hlent, hG, hlit⟩ := hc
                simp only [Option.some.injEq, Prod.mk.injEq] at e
                obtain ⟨rfl, rfl, rfl⟩ := e
                obtain ⟨he, hep, hx, hcall, hK⟩ := vc
                refine ⟨?_, hK⟩
                obtain ⟨hfr, hnl⟩ := hroom m (Nat.le_refl _) (by simp [callSlots])
                have h0 := h.inval [id]
                have hob0 : (s.inval [id]).obj id = .arr true sz es := by rw [obj_inval, hob]; rfl
                have hfr0 : (s.inval [id]).obj m = .free := by rw [obj_inval, hfr]; rfl
                have hnl0 : m < (s.inval [id]).objs.length := by rw [inval_length]; exact hnl
                obtain ⟨ι1, h1, hsl, htk, hext⟩ := h0.focus hob0 he hep hx hfr0 hnl0
                  (fun t c hc k hk => by rw [reg_inval] at hc; have := invAV_src _ hc hk; simpa using this)
                  (fun k c hc k' hk' => by
                    rw [obj_inval] at hc
                    cases hk : s.obj k with
                    | box cs => rw [hk] at hc; simp [invOb, Ob.acs] at hc; obtain ⟨y, _, rfl⟩ := hc; have := invAC_src _ hk'; simpa using this
                    | free => rw [hk] at hc; simp [invOb, Ob.acs] at hc
                    | dead => rw [hk] at hc; simp [invOb, Ob.acs] at hc
                    | map _ _ _ => rw [hk] at hc; simp [invOb, Ob.acs] at hc
                    | arr _ _ _ => rw [hk] at hc; simp [invOb, Ob.acs] at hc)
                have hstep : ∀ k, OStep w w ι ι True k (s.obj k) ((s.inval [id]).obj k) := by
                  intro k
                  rw [obj_inval]
                  cases hk : s.obj k with
                  | free => trivial
                  | dead => trivial
                  | box cs => rfl
                  | arr o1 s1 e1 => exact ⟨rfl, rfl, fun _ b hb => ⟨.inl hb, rfl⟩⟩
                  | map _ _ _ => exact ⟨rfl, rfl, rfl, fun _ b hb => ⟨.inl hb, rfl⟩⟩
                have hx0 : Ext (fun _ => True) w ι s.obj w ι (s.inval [id]).obj := ext_refl hstep
                have hvals := evAll_rel h hav
                obtain ⟨_, hav1⟩ := findSub_rel (R := AVRel w ι s.obj) (R' := AVRel w ι1 (focusSt (s.inval [id]) id m i p sz es el sz2 es').obj) hfs hvals
                  (fun v hv => by
                    obtain ⟨b, hb, _, hcell⟩ := hv.1.2 _ _ _ hob
                    have h8 := htk.cell b (by rw [hsl]; exact hb)
                    rw [h8] at hcell
                    simp only [Option.some.injEq] at hcell
                    have hom : (focusSt (s.inval [id]) id m i p sz es el sz2 es').obj m = .arr true sz2 es' := by
                      unfold focusSt
                      rw [obj_setOb (by rw [setOb_length]; exact hnl0), if_pos rfl]
                    refine ⟨⟨?_, fun _ _ _ _ => hcell.symm⟩, fun _ => hv.2 (by simp)⟩
                    unfold notFree; rw [hom]; trivial)
                  (fun x hx v hv => by
                    have hok := (List.all_eq_true.1 hargs) x hx
                    refine AVRel.ext hext (fun c hc k hk => ?_) (AVRel.ext hx0 (fun _ _ _ _ => trivial) hv)
                    have := (List.all_eq_true.1 hok) c hc
                    rw [hk] at this
                    simp only [Bool.not_eq_true'] at this
                    exact Nat.ne_of_beq_eq_false this)
                intro next Q k
                have hemb' : somes pp.emb = [m] := by rw [hemb]; rfl
                refine callAV_wp h1 ho (n := m + 1) hpp hav1 hlent (hG.imp (fun x => x) fun hg => ⟨by simp [Ob.noG], hg⟩) hcall (fun j h3 h4 => ?_) fun ι2 v w2 k1 k2 k3 => ?_
                · have h5 : j ≠ m := by omega
                  have h6 : j ≠ id := fun e => by
                    have := (hroom j (by omega) (by simp at h4; simp [callSlots]; omega)).1
                    rw [e, hob] at this; cases this
                  unfold focusSt
                  rw [obj_setOb (by rw [setOb_length]; exact hnl0), obj_setOb (by rw [inval_length]; exact lt_of_obj hob (by simp)), if_neg h5, if_neg h6, setOb_length, setOb_length, inval_length, obj_inval]
                  obtain ⟨h7, h8⟩ := hroom j (by omega) (by simp at h4; simp [callSlots]; omega)
                  exact ⟨by rw [h7]; rfl, h8⟩
                · -- behind the call
                  rw [hemb'] at k1 k2 k3
                  have hbu : backUpd pp.emb (m + 1) [Ob.arr true sz2 es2] = [(m, .arr true sz2 es2)] := by
                    rw [hemb]; rfl
                  rw [hbu] at k1 k2 k3
                  have hlid : id < (s.inval [id]).objs.length := by rw [inval_length]; exact lt_of_obj hob (by simp)
                  have hl1 : ((focusSt (s.inval [id]) id m i p sz es el sz2 es').inval [m]).objs.length = s.objs.length := by
                    rw [inval_length]; unfold focusSt; rw [setOb_length, setOb_length, inval_length]
                  have ho2 : ∀ j, (((focusSt (s.inval [id]) id m i p sz es el sz2 es').inval [m]).updObs [(m, .arr true sz2 es2)]).obj j =
                      if j = m then .arr true sz2 es2 else if j = id then .arr true sz (es.set i (el.set p .any)) else invOb [id, m] (s.obj j) := by
                    intro j
                    show (((focusSt (s.inval [id]) id m i p sz es el sz2 es').inval [m]).setOb m (.arr true sz2 es2)).obj j = _
                    rw [obj_setOb (by rw [hl1]; exact hnl)]
                    by_cases hj : j = m
                    · rw [if_pos hj, if_pos hj]
                    · rw [if_neg hj, if_neg hj, obj_inval]
                      unfold focusSt
                      rw [obj_setOb (by rw [setOb_length]; exact hnl0), obj_setOb hlid, if_neg hj]
                      by_cases hj2 : j = id
                      · rw [if_pos hj2, if_pos hj2]; rfl
                      · rw [if_neg hj2, if_neg hj2, obj_inval, invOb_two]
                  have hidm : id ≠ m := hne
                  have hi2 := ho2 id
                  rw [if_neg hidm, if_pos rfl] at hi2
                  have hm2 := ho2 m
                  rw [if_pos rfl] at hm2
                  have hif : ((focusSt (s.inval [id]) id m i p sz es el sz2 es').inval [m]).obj id = .arr true sz (es.set i (el.set p .any)) := by
                    rw [obj_inval]; unfold focusSt
                    rw [obj_setOb (by rw [setOb_length]; exact hnl0), obj_setOb hlid, if_neg hidm, if_pos rfl]; rfl
                  have hmf : ((focusSt (s.inval [id]) id m i p sz es el sz2 es').inval [m]).obj m = .arr true sz2 es' := by
                    rw [obj_inval]; unfold focusSt
                    rw [obj_setOb (by rw [setOb_length]; exact hnl0), if_pos rfl]; rfl
                  have hoi := k3.o id
                  rw [hif, hi2] at hoi
                  obtain ⟨hsid, _, hblk⟩ := hoi
                  have hom := k3.o m
                  rw [hmf, hm2] at hom
                  obtain ⟨hsm, _, _⟩ := hom
                  have hil : i < es.length := (List.getElem?_eq_some_iff.1 he).1
                  have htk2 : Taken w2 ι2 id m i sz p := by
                    refine ⟨fun b hb => ?_, ?_⟩
                    · rw [hsid] at hb
                      obtain ⟨b1, hb1, hf1⟩ := htk.blk
                      have : b1 = b := by rw [hb] at hb1; exact (Option.some.inj hb1).symm
                      subst this
                      have hsame := (hblk (by simp; exact fun e => hidm e) b1 hf1).2
                      rw [cell_of_heap hsame, hsm]
                      exact htk.cell b1 hb
                    · obtain ⟨b1, hb1, hf1⟩ := htk.blk
                      refine ⟨b1, by rw [hsid]; exact hb1, ?_⟩
                      have hr2 := k1.objs id
                      rw [hi2] at hr2
                      obtain ⟨e0, xs, Fs, _, _, h9, _⟩ := hr2
                      exact h9 b1 (by rw [hsid]; exact hb1)
                  have hlen2 : (es.set i (el.set p .any))[i]? = some (el.set p .any) := by rw [List.getElem?_set_self hil]
                  obtain ⟨ι3, k4, k5⟩ := k1.unfocus (es' := es2) (e := el.set p .any) hi2 hm2 hlen2 (by rw [List.length_set]; exact hpl) hidm htk2
                  have hset : (es.set i (el.set p .any)).set i ((el.set p .any).set p (.list es2)) = es.set i (el.set p (.list es2)) := by
                    rw [List.set_set, List.set_set]
                  have hfin : ∀ j, (s.app m { val := res, new := [.dead], upd := [(id, .arr true sz (es.set i (el.set p (.list es2))))], inv := [id, m] }).obj j =
                      (unfocusSt (((focusSt (s.inval [id]) id m i p sz es el sz2 es').inval [m]).updObs [(m, .arr true sz2 es2)]) id m i p sz (es.set i (el.set p .any)) (el.set p .any) es2).obj j := by
                    intro j
                    unfold unfocusSt
                    have hl3 : (((focusSt (s.inval [id]) id m i p sz es el sz2 es').inval [m]).updObs [(m, Ob.arr true sz2 es2)]).objs.length = s.objs.length := by
                      rw [updObs_length, hl1]
                    rw [obj_setOb (by rw [setOb_length, hl3]; exact hnl), obj_setOb (by rw [hl3]; exact lt_of_obj hob (by simp)), hset, ho2]
                    show (((s.inval [id, m]).setOb id _).setOb m .dead).obj j = _
                    rw [obj_setOb (by rw [setOb_length, inval_length]; exact hnl), obj_setOb (by rw [inval_length]; exact lt_of_obj hob (by simp)), obj_inval]
                    by_cases hj : j = m
                    · rw [if_pos hj, if_pos hj]
                    · rw [if_neg hj, if_neg hj]
                      by_cases hj2 : j = id
                      · rw [if_pos hj2, if_pos hj2]
                      · rw [if_neg hj2, if_neg hj2, if_neg hj, if_neg hj2]
                  have hregs : (s.app m { val := res, new := [.dead], upd := [(id, .arr true sz (es.set i (el.set p (.list es2))))], inv := [id, m] }).regs =
                      (unfocusSt (((focusSt (s.inval [id]) id m i p sz es el sz2 es').inval [m]).updObs [(m, .arr true sz2 es2)]) id m i p sz (es.set i (el.set p .any)) (el.set p .any) es2).regs := by
                    show s.regs.map (invAV [id, m]) = (s.regs.map (invAV [id])).map (invAV [m])
                    rw [List.map_map]
                    congr 1
                    funext x; exact (invAV_two id m x).symm
                  have k6 := k4.sameObj (s' := s.app m { val := res, new := [.dead], upd := [(id, .arr true sz (es.set i (el.set p (.list es2))))], inv := [id, m] }) hregs (funext hfin) rfl
                  refine k ι3 v w2 k6 ?_
                  have hresr : res.ren (renOf pp.emb (m + 1)) = res := by
                    have hac : ∀ c, litAC c = true → c.ren (renOf pp.emb (m + 1)) = c := fun c hc => by
                      unfold litAC at hc; split at hc
                      · rfl
                      · cases hc
                    have hsv : ∀ x : SV, x.acs.all litAC = true → x.ren (renOf pp.emb (m + 1)) = x := fun x hx => by
                      cases x with
                      | one c => simp [SV.acs] at hx; simp [SV.ren, hac c hx]
                      | agg cs =>
                        simp only [SV.acs] at hx
                        simp only [SV.ren, SV.agg.injEq]
                        conv => rhs; rw [← List.map_id cs]
                        exact List.map_congr_left fun c hc => hac c ((List.all_eq_true.1 hx) c hc)
                    cases res with
                    | sv x => simp only [AV.ren, hsv x hlit]
                    | tup l =>
                      simp only [AV.ren, AV.tup.injEq]
                      conv => rhs; rw [← List.map_id l]
                      refine List.map_congr_left fun x hx => hsv x (List.all_eq_true.2 fun c hc => (List.all_eq_true.1 hlit) c (List.mem_flatMap.2 ⟨x, hx, hc⟩))
                  rw [hresr] at k2
                  have k7 := AVRel.ext k5 (fun _ _ _ _ => trivial) k2
                  rw [funext hfin]
                  exact k7
              · cases e
            · cases e
          · cases e
        · cases e
      · cases e
    · cases e
  · cases e

/-! ### every operation -/
/-- how many numbers an operation may take for new objects -/
def slots (o : Oper) : Nat :=
  match o.op with
  | .alloc _ | .box .. | .buildSlice .. | .makeSlice .. | .lookup .. | .makeMap .. => 1
  | .call { callee := .builtin .append, .. } => 1
  | .call { callee := .value _, .. } => callSlots
  | _ => 0

def aop (P : Program) (s : St) (o : Oper) (n : Nat) (q : List Orc) : Option (Res × List Item × List Orc) :=
  match o.op with
  | .alloc T => (eAlloc P T n).map fun r => (r, [], q)
  | .box _ x => (eBox s x n).map fun r => (r, [], q)
  | .build T ps => (eBuild P s T ps).map fun r => (r, [], q)
  | .buildSlice T len ps => (eBuildSlice P s T len ps n).map fun r => (r, [], q)
  | .makeSlice T lo co => (eMake P s T lo co n).map fun r => (r.1, r.2, q)
  | .store T ad x => match eStoreBox P s T ad x with
    | some r => some (r, [], q)
    | none => eStoreArr P s T ad x q
  | .call { callee := .builtin .append, args := args, argTypes := tys } => eAppend P s args tys n q
  | .call { callee := .value (.func f), args := args, .. } => eCall P s f args n q
  | .call { callee := .builtin .delete, args := args, argTypes := tys } => eMapDelete P s args tys q
  | .lookup T m x ok => eLookup P s T m x ok n q
  | .makeMap T hint => eMakeMap P T hint n q
  | .mapUpdate T m x y | .insert T m x y => eMapUpdate P s T m x y q
  | .binOp op T x y _ => match vop P s o q with
    | some r => some ({ val := r.1 }, r.2.1, r.2.2)
    | none => (eMapNil P s op T x y).map fun r => (r, [], q)
  | _ => (vop P s o q).map fun r => ({ val := r.1 }, r.2.1, r.2.2)

theorem vok_eok (h : Rel E s ι a w) {o : Oper} {x : AV} (hv : VOK P s ι a w o x) (n : Nat) : EOK P E s a w o n { val := x } := by
  obtain ⟨v, h1, h2⟩ := hv
  exact EOK.value h1 h h2

theorem aop_sound (h : Rel E s ι a w) {o : Oper} {n : Nat} {r : Res} {it : List Item} {q q' : List Orc} {K : Prop} (e : aop P s o n q = some (r, it, q')) (vc : VC it K) (hroom : Room s n (slots o)) :
    EOK P E s a w o n r ∧ K := by
  unfold aop at e
  split at e
  · rename_i T ho
    cases hr : eAlloc P T n with
    | none => simp [hr] at e
    | some r' =>
      simp only [hr, Option.map_some, Option.some.injEq, Prod.mk.injEq] at e
      obtain ⟨rfl, rfl, rfl⟩ := e
      have hl : r'.new.length ≤ 1 := by unfold eAlloc at hr; cases hz : zeroACs P T <;> simp [hz] at hr; subst hr; simp
      exact ⟨eAlloc_sound h ho hr fun i h1 h2 => hroom i h1 (by simp only [slots, ho]; omega), vc⟩
  · rename_i T x ho
    cases hr : eBox s x n with
    | none => simp [hr] at e
    | some r' =>
      simp only [hr, Option.map_some, Option.some.injEq, Prod.mk.injEq] at e
      obtain ⟨rfl, rfl, rfl⟩ := e
      have hl : r'.new.length ≤ 1 := by
        unfold eBox at hr
        split at hr
        · rename_i v _; cases hz : svCells v <;> simp [hz] at hr; subst hr; simp
        · cases hr
      exact ⟨eBox_sound h ho hr fun i h1 h2 => hroom i h1 (by simp only [slots, ho]; omega), vc⟩
  · rename_i T ps ho
    cases hr : eBuild P s T ps with
    | none => simp [hr] at e
    | some r' =>
      simp only [hr, Option.map_some, Option.some.injEq, Prod.mk.injEq] at e
      obtain ⟨rfl, rfl, rfl⟩ := e
      exact ⟨eBuild_sound h ho hr, vc⟩
  · rename_i T len ps ho
    cases hr : eBuildSlice P s T len ps n with
    | none => simp [hr] at e
    | some r' =>
      simp only [hr, Option.map_some, Option.some.injEq, Prod.mk.injEq] at e
      obtain ⟨rfl, rfl, rfl⟩ := e
      have hl : r'.new.length ≤ 1 := by
        unfold eBuildSlice at hr
        repeat (split at hr <;> first | (cases hr; done) | skip)
        simp only [Option.some.injEq] at hr; subst hr; simp
      exact ⟨eBuildSlice_sound h ho hr fun i h1 h2 => hroom i h1 (by simp only [slots, ho]; omega), vc⟩
  · rename_i T lo co ho
    cases hr : eMake P s T lo co n with
    | none => simp [hr] at e
    | some r' =>
      obtain ⟨r1, it1⟩ := r'
      simp only [hr, Option.map_some, Option.some.injEq, Prod.mk.injEq] at e
      obtain ⟨rfl, rfl, rfl⟩ := e
      have hl : r1.new.length ≤ 1 := by
        unfold eMake at hr
        repeat (split at hr <;> first | (cases hr; done) | skip)
        simp only [Option.some.injEq, Prod.mk.injEq] at hr; obtain ⟨rfl, _⟩ := hr; simp
      exact eMake_sound h ho hr vc fun i h1 h2 => hroom i h1 (by simp only [slots, ho]; omega)
  · rename_i T ad x ho
    split at e
    · rename_i r' hr
      simp only [Option.some.injEq, Prod.mk.injEq] at e
      obtain ⟨rfl, rfl, rfl⟩ := e
      exact ⟨eStoreBox_sound h ho hr, vc⟩
    · exact eStoreArr_sound h ho e vc
  · rename_i args tys ho
    refine eAppend_sound h ho e vc fun i h1 h2 => hroom i h1 ?_
    have hl : r.new.length ≤ 1 := by
      unfold eAppend at e
      repeat (split at e <;> first | (cases e; done) | skip)
      simp only [Option.some.injEq, Prod.mk.injEq] at e; obtain ⟨rfl, _⟩ := e; simp
    simp only [slots, ho]; omega
  · rename_i f args tys ho
    exact eCall_sound h ho e vc fun i h1 h2 => hroom i h1 (by simp only [slots, ho]; exact h2)
  · rename_i args tys ho
    exact eMapDelete_sound h ho e vc
  · rename_i T m x ok ho
    refine eLookup_sound h ho e vc fun i h1 h2 => hroom i h1 ?_
    have hl : r.new.length ≤ 1 := by
      unfold eLookup at e
      split at e
      · split at e
        · split at e
          · split at e
            · split at e
              · simp only [Option.some.injEq, Prod.mk.injEq] at e; obtain ⟨rfl, _⟩ := e; simp
              · split at e
                · simp only [Option.some.injEq, Prod.mk.injEq] at e; obtain ⟨rfl, _⟩ := e; simp
                · cases e
              · simp only [Option.some.injEq, Prod.mk.injEq] at e; obtain ⟨rfl, _⟩ := e; simp
              · cases e
            · cases e
          · cases e
        · cases e
      · cases e
    simp only [slots, ho]; omega
  · rename_i T hint ho
    refine eMakeMap_sound h ho e vc fun i h1 h2 => hroom i h1 ?_
    have hl : r.new.length ≤ 1 := by
      unfold eMakeMap at e
      split at e
      · split at e
        · simp only [Option.some.injEq, Prod.mk.injEq] at e; obtain ⟨rfl, _⟩ := e; simp
        · cases e
      · cases e
    simp only [slots, ho]; omega
  · rename_i T m x y ho
    exact eMapUpdate_sound h (.inl ho) e vc
  · rename_i T m x y ho
    exact eMapUpdate_sound h (.inr ho) e vc
  · rename_i op T x y z ho
    split at e
    · rename_i r' hr
      obtain ⟨x1, it1, q1⟩ := r'
      simp only [Option.some.injEq, Prod.mk.injEq] at e
      obtain ⟨rfl, rfl, rfl⟩ := e
      obtain ⟨h1, h2⟩ := vop_sound h hr vc
      exact ⟨vok_eok h h1 n, h2⟩
    · cases hr : eMapNil P s op T x y with
      | none => simp [hr] at e
      | some r' =>
        simp only [hr, Option.map_some, Option.some.injEq, Prod.mk.injEq] at e
        obtain ⟨rfl, rfl, rfl⟩ := e
        exact ⟨eMapNil_sound h ho hr, vc⟩
  · cases hr : vop P s o q with
    | none => simp [hr] at e
    | some r' =>
      obtain ⟨x, it1, q1⟩ := r'
      simp only [hr, Option.map_some, Option.some.injEq, Prod.mk.injEq] at e
      obtain ⟨rfl, rfl, rfl⟩ := e
      obtain ⟨h1, h2⟩ := vop_sound h hr vc
      exact ⟨vok_eok h h1 n, h2⟩

/-- every operation, in a region that keeps its order -/
def aopS (P : Program) (s : St) (o : Oper) (n : Nat) (q : List Orc) : Option (Res × List Item × List Orc) :=
  match o.op with
  | .call { callee := .value (.func f), args := args, .. } => match eCallSub P s f args n q with
    | some r => some r
    | none => aop P s o n q
  | _ => aop P s o n q

theorem aopS_sound (h : Rel E s ι a w) {o : Oper} {n : Nat} {r : Res} {it : List Item} {q q' : List Orc} {K : Prop} (e : aopS P s o n q = some (r, it, q')) (vc : VC it K) (hroom : Room s n (slots o)) :
    EOK P E s a w o n r ∧ K := by
  unfold aopS at e
  split at e
  · rename_i f args tys ho
    split at e
    · rename_i r0 hr0
      simp only [Option.some.injEq] at e; subst e
      exact eCallSub_sound h ho hr0 vc fun i h1 h2 => hroom i h1 (by simp only [slots, ho]; exact h2)
    · exact aop_sound h e vc hroom
  · exact aop_sound h e vc hroom

end
end Go.Proofs.Ytamcedjjlokfhaa.Ab
