/- The abstract machine, part 12: append, slice literals, make. No condition. -/
import Derived.Test.YtamcedjjlokfhaaAb11
namespace Go.Proofs.Ytamcedjjlokfhaa.Ab
open Go
set_option linter.unusedVariables false
section
variable {P : Program} {E : Ent} {s : St} {ι : Interp} {a : Act} {w : World}

def target (s : St) (sz : Nat) (q : List Orc) : AC → Option (Bool × List (List Cell) × List Nat × List Orc)
  | .val (.lit (.slice none 0 0)) => match q with
    | .bool own :: q => some (own, [], [], q)
    | _ => none
  | .ref j => match s.obj j with
    | .arr own sz' es => if sz' = sz then some (own, es, [j], q) else none
    | _ => none
  | _ => none

def TgtRel (w : World) (G : Nat → Prop) (own : Bool) (fps : Nat → Prop) (v : Value) (sz : Nat) (es : List (List Cell)) : Prop :=
  (∀ e ∈ es, e.length = sz) ∧ cap0 v es ∧ ∃ (e0 : TypeId) (xs : List Value) (Fs : Nat → Nat → Prop), w.ownsRow 0 e0 sz v es.length xs ∧ (∀ b, v.ownBlock = some b → fps b) ∧ (∀ k b, Fs k b → fps b) ∧
    (∀ k b, v.ownBlock = some b → ¬ Fs k b) ∧ (∀ k k' b, k ≠ k' → Fs k b → ¬ Fs k' b) ∧ ∀ (k : Nat) (u : Value) (c : Cell), xs[k]? = some u → es.flatten[k]? = some c → Nest w G own (Fs k) u c

theorem target_sound (h : Rel E s ι a w) {sz : Nat} {c : AC} {v : Value} (hv : ACRel w ι s.obj c v) {q q' : List Orc} {own : Bool} {es : List (List Cell)} {ids : List Nat}
    (e : target s sz q c = some (own, es, ids, q')) : TgtRel w ι.G own (fun b => ∃ j ∈ ids, ι.fp j b) v sz es ∧ (∀ j ∈ ids, isArr (s.obj j)) := by
  unfold target at e
  split at e
  · split at e
    · simp only [Option.some.injEq, Prod.mk.injEq] at e
      obtain ⟨rfl, rfl, rfl, rfl⟩ := e
      obtain ⟨rfl, _⟩ := Rd.lit_inv (show Rd w ι.G v _ from hv)
      exact ⟨⟨by simp, fun _ => ⟨none, rfl⟩, 0, [], fun _ _ => False, World.ownsRow_nil w 0 0 sz, by simp [Value.ownBlock], by simp, by simp, by simp, by simp⟩, by simp⟩
    · cases e
  · rename_i j
    split at e
    · rename_i own' sz' es' hob
      split at e
      · rename_i hsz
        subst hsz
        simp only [Option.some.injEq, Prod.mk.injEq] at e
        obtain ⟨rfl, rfl, rfl, rfl⟩ := e
        have hor := h.objs j
        rw [hob] at hor
        rw [hv.2 _ _ _ hob]
        obtain ⟨e0, xs, Fs, h1, h2, h3, h4, h5, h6, h7, h0⟩ := hor
        exact ⟨⟨h2, h0, e0, xs, Fs, h1, fun b hb => ⟨j, by simp, h3 b hb⟩, fun k b hb => ⟨j, by simp, h4 k b hb⟩, h5, h6, h7⟩, fun i hi => by simp at hi; subst hi; exact ⟨_, _, _, hob⟩⟩
      · cases e
    · cases e
  · cases e

theorem fitElem_ok {e sz : Nat} (h : fitElem P e sz = true) : ∃ i z, P.info? e = some i ∧ i.zero = some z ∧ i.size = sz ∧ z.cells.size = sz ∧ 0 < sz ∧ 0 < i.bytes := by
  unfold fitElem at h
  split at h
  · rename_i i hi
    split at h
    · rename_i z hz
      simp at h
      exact ⟨i, z, hi, hz, h.1.1.1, h.1.1.2, h.1.2, h.2⟩
    · cases h
  · cases h

theorem srcType_ok {u : TypeId} (h : srcType P u = true) : ∃ d, P.underlying u = some d ∧ ∀ k, d ≠ .int k := by
  unfold srcType at h
  split at h
  · exact ⟨_, ‹_›, fun k => by simp⟩
  · exact ⟨_, ‹_›, fun k => by simp⟩
  · cases h

/-- append, as the relation sees it -/
theorem append_arr (h : Rel E s ι a w) {own : Bool} {sz bytes : Nat} {es es2 : List (List Cell)} {ids ids2 : List Nat} {v x : Value}
    (hT : TgtRel w ι.G own (fun b => ∃ j ∈ ids, ι.fp j b) v sz es) (hS : SrcRel P w ι.G own (fun b => ∃ j ∈ ids2, ι.fp j b) x sz es2) (hdis : ∀ j ∈ ids2, j ∉ ids)
    {t u ty e : TypeId} {d : TypeDesc} {i : TypeInfo} {z : Value} (ht : P.underlying t = some (.slice e)) (hu : P.underlying u = some d) (hd : ∀ k, d ≠ .int k)
    (hi : P.info? e = some i) (hz : i.zero = some z) (hsize : i.size = sz) (hby : i.bytes = bytes) (hzs : z.cells.size = sz) (hsz : 0 < sz) (hb0 : 0 < bytes)
    (hbytes : (es.length + es2.length) * bytes ≤ 140737488355328) :
    ∃ v' w', (Builtin.append_ #[t, u] ty #[v, x]).run P w = .ok v' w' ∧ (∀ b, b < w.heap.size → (∀ j ∈ ids ++ ids2, ¬ ι.fp j b) → w'.heap[b]? = w.heap[b]?) ∧ w.heap.size ≤ w'.heap.size ∧ w'.os = w.os ∧ w'.output = w.output ∧
      v'.oneCell' = true ∧ ∃ F' : Nat → Prop, (∀ b, F' b → (∃ j ∈ ids ++ ids2, ι.fp j b) ∨ (w.heap.size ≤ b ∧ b < w'.heap.size)) ∧ ArrRel w' (Nest w' ι.G own) sz F' v' (es ++ es2) := by
  obtain ⟨t1, t0, e0, xs, Fs, t2, t3, t4, t5, t6, t7⟩ := hT
  obtain ⟨news, s1, s2, s3, s4, Fs2, s5, s6, s7⟩ := hS
  have hlx : xs.length = es.flatten.length := by rw [t2.1, flatten_length t1]
  have hln : news.length = es2.flatten.length := by rw [s3, flatten_length s4]
  have h1 : ∀ u ∈ news, u.oneCell' = true := by
    intro u hu
    obtain ⟨k, hk⟩ := List.getElem?_of_mem hu
    have : k < es2.flatten.length := by rw [← hln]; exact (List.getElem?_eq_some_iff.1 hk).1
    exact (s7 k u _ hk (List.getElem?_eq_getElem this)).one
  have h63 : es.length + es2.length ≤ maxLen := by
    have := Nat.le_trans (Nat.le_mul_of_pos_right (es.length + es2.length) hb0) hbytes
    simp only [maxLen]; omega
  obtain ⟨v', w', e', r1, r2, r3, r4, r5⟩ := run_append_gen w t u ty e e0 d i z sz bytes ht hu hd hi hz hsize hby hzs hsz v es.length xs t2 (fun h => t0 (List.eq_nil_of_length_eq_zero h)) x es2.length news s1 s2 s3 h1 h63 hbytes
  have hvlt : ∀ b, v.ownBlock = some b → b < w.heap.size := fun b hb => by
    obtain ⟨j, _, hj⟩ := t3 b hb
    exact h.lt j b hj
  have hkeep : ∀ b, b < w.heap.size → v.ownBlock ≠ some b → w'.heap[b]? = w.heap[b]? := fun b hb hne => r3.block b hb fun e => hne e.symm
  have hone : v'.oneCell' = true := by rcases r2.2 with ⟨rfl, _⟩ | ⟨g, cap, cur, rfl, _⟩ <;> rfl
  refine ⟨v', w', r1, fun b hb hnot => hkeep b hb fun e => ?_, r3.size, r3.os, r3.output, hone, fun b => v'.ownBlock = some b ∨ ∃ j ∈ ids ++ ids2, ι.fp j b, fun b hb => ?_, ?_⟩
  · obtain ⟨j, hj, hjb⟩ := t3 b e
    exact hnot j (List.mem_append_left _ hj) hjb
  · rcases hb with hb | hb
    · rcases r4 b hb with h2 | h2
      · obtain ⟨j, hj, hjb⟩ := t3 b h2
        exact .inl ⟨j, List.mem_append_left _ hj, hjb⟩
      · exact .inr h2
    · exact .inl hb
  · have hnest : ∀ {F : Nat → Prop} {u : Value} {c : Cell}, (∀ b, F b → b < w.heap.size ∧ v.ownBlock ≠ some b) → Nest w ι.G own F u c → Nest w' ι.G own F u c := by
      intro F u c hF hN
      refine hN.mono (fun b hb => ⟨hb, hkeep b (h.glt b hb) fun e => ?_⟩) fun b hb => hkeep b (hF b hb).1 (hF b hb).2
      obtain ⟨j, _, hjb⟩ := t3 b e
      exact h.gfp j b hjb hb
    have hFs : ∀ k b, Fs k b → b < w.heap.size ∧ v.ownBlock ≠ some b := fun k b hb => by
      obtain ⟨j, _, hjb⟩ := t4 k b hb
      exact ⟨h.lt j b hjb, fun e => t5 k b e hb⟩
    have hFs2 : ∀ k b, Fs2 k b → b < w.heap.size ∧ v.ownBlock ≠ some b := fun k b hb => by
      obtain ⟨j, hj, hjb⟩ := s5 k b hb
      refine ⟨h.lt j b hjb, fun e => ?_⟩
      obtain ⟨j2, hj2, hjb2⟩ := t3 b e
      exact h.disj j j2 b (fun e => hdis j hj (e ▸ hj2)) hjb hjb2
    have hcross : ∀ k k' b, Fs k b → ¬ Fs2 k' b := fun k k' b hb hb2 => by
      obtain ⟨j, hj, hjb⟩ := t4 k b hb
      obtain ⟨j2, hj2, hjb2⟩ := s5 k' b hb2
      exact h.disj j2 j b (fun e => hdis j2 hj2 (e ▸ hj)) hjb2 hjb
    refine ⟨e', xs ++ news, fun k b => if k < xs.length then Fs k b else Fs2 (k - xs.length) b, by rw [List.length_append]; exact r2, ?_, fun b hb => .inl hb, ?_, ?_, ?_, ?_, fun he => r5 (by have := congrArg List.length he; simpa using this)⟩
    · intro y hy
      rcases List.mem_append.1 hy with hy | hy
      · exact t1 y hy
      · exact s4 y hy
    · intro k b hb
      split at hb
      · obtain ⟨j, hj, hjb⟩ := t4 k b hb; exact .inr ⟨j, List.mem_append_left _ hj, hjb⟩
      · obtain ⟨j, hj, hjb⟩ := s5 _ b hb; exact .inr ⟨j, List.mem_append_right _ hj, hjb⟩
    · intro k b hb hk
      have hlt : b < w.heap.size ∧ v.ownBlock ≠ some b := by
        split at hk
        · exact hFs k b hk
        · exact hFs2 _ b hk
      rcases r4 b hb with h2 | h2
      · exact hlt.2 h2
      · have := hlt.1; omega
    · intro k k' b hne hb hb'
      split at hb <;> split at hb'
      · exact t6 k k' b hne hb hb'
      · exact hcross k _ b hb hb'
      · exact hcross k' _ b hb' hb
      · exact s6 _ _ b (by omega) hb hb'
    · intro k u c hu hc
      rw [List.flatten_append] at hc
      by_cases hk : k < xs.length
      · rw [List.getElem?_append_left hk] at hu
        rw [List.getElem?_append_left (by omega)] at hc
        simp only [hk, if_true]
        exact hnest (hFs k) (t7 k u c hu hc)
      · rw [List.getElem?_append_right (by omega)] at hu
        rw [List.getElem?_append_right (by omega), ← hlx] at hc
        simp only [hk, if_false]
        exact hnest (hFs2 _) (s7 _ u c hu hc)

def eAppend (P : Program) (s : St) (args : Array Operand) (tys : Array TypeId) (n : Nat) (q : List Orc) : Option (Res × List Item × List Orc) :=
  match args.toList, tys.toList with
  | [x, y], [t, u] => match telem P t, s.ac x, s.ac y with
    | some e, some c, some c2 => match tsize P e, tbytes P e with
      | some sz, some by_ => if fitElem P e sz = true ∧ srcType P u = true then
          (match target s sz q c with
          | some (own, es, ids, q') => match srcElems s own sz c2 with
            | some (es2, ids2, it) => if ids2.all (fun j => !ids.elem j) then
                some ({ val := .sv (.one (.ref n)), new := [.arr own sz (es ++ es2)], upd := killed (ids ++ ids2) }, it ++ [.obl ((es.length + es2.length) * by_ ≤ 140737488355328)], q') else none
            | none => none
          | none => none) else none
      | _, _ => none
    | _, _, _ => none
  | _, _ => none

theorem eAppend_sound (h : Rel E s ι a w) {o : Oper} {args : Array Operand} {tys : Array TypeId} (ho : o.op = .call { callee := .builtin .append, args := args, argTypes := tys }) {n : Nat} {r : Res} {q q' : List Orc}
    {it : List Item} {K : Prop} (e : eAppend P s args tys n q = some (r, it, q')) (vc : VC it K) (hroom : Room s n r.new.length) : EOK P E s a w o n r ∧ K := by
  unfold eAppend at e
  split at e
  · rename_i x y t u hargs htys
    obtain rfl : args = #[x, y] := by apply Array.ext'; simpa using hargs
    obtain rfl : tys = #[t, u] := by apply Array.ext'; simpa using htys
    split at e
    · rename_i el c c2 hel hc hc2
      split at e
      · rename_i sz by_ hsz hby
        split at e
        · rename_i hfit
          split at e
          · rename_i own es ids q1 htg
            split at e
            · rename_i es2 ids2 it1 hsrc
              split at e
              · rename_i hdis
                simp only [Option.some.injEq, Prod.mk.injEq] at e
                obtain ⟨rfl, rfl, rfl⟩ := e
                obtain ⟨hT, hi1⟩ := target_sound h (ac_rel h hc) htg
                obtain ⟨hS, hi2, hbnd, hK⟩ := srcElems_sound (P := P) h (ac_rel h hc2) hsrc (VC.append vc)
                obtain ⟨i, z, f1, f2, f3, f4, f5, f6⟩ := fitElem_ok hfit.1
                obtain ⟨d, d1, d2⟩ := srcType_ok hfit.2
                have hby' : i.bytes = by_ := by simpa [tbytes, f1] using hby
                have hd' : ∀ j ∈ ids2, j ∉ ids := fun j hj => by simpa using (List.all_eq_true.1 hdis) j hj
                obtain ⟨v', w', r1, r2, r3, r4, r5, r6, F', r7, r8⟩ := append_arr (ty := o.type) h hT hS hd' (telem_ok hel) d1 d2 f1 f2 f3 hby' f4 f5 (by omega) hbnd
                obtain ⟨hf, hn⟩ := hroom n (Nat.le_refl _) (by simp)
                obtain ⟨ι', k1, k2⟩ := h.makeArr hf hn (fun j hj => (List.mem_append.1 hj).elim (hi1 j) (hi2 j)) r2 r3 r4 r5 r7 r8 r6
                refine ⟨EOK.value ?_ k1 k2, hK⟩
                simp only [execOp, ho, resolve, Sem.run_bind, Sem.run_pure, Result.andThen_ok, invoke, builtin]
                simp [r1]
              · cases e
            · cases e
          · cases e
        · cases e
      · cases e
    · cases e
  · cases e

end
end Go.Proofs.Ytamcedjjlokfhaa.Ab
