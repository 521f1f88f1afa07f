/- The abstract machine, part 14: stores into the elements of an array of the function's own. No condition. -/
import Derived.Test.YtamcedjjlokfhaaAb13
namespace Go.Proofs.Ytamcedjjlokfhaa.Ab
open Go
set_option linter.unusedVariables false

section
variable {P : Program} {E : Ent} {s : St} {ι : Interp} {a : Act} {w : World}

/-! ### what was borrowed is forgotten -/
theorem invAC_rel {ob : Nat → Ob} (ids : List Nat) {c : AC} {v : Value} (h : ACRel w ι ob c v) : ACRel w ι ob (invAC ids c) v := by
  unfold invAC
  split
  · split
    · trivial
    · exact h
  · exact h

theorem invAC_src (ids : List Nat) {c : AC} {id : Nat} (h : (invAC ids c).src = some id) : id ∉ ids := by
  unfold invAC at h
  split at h
  · rename_i i hi
    split at h
    · simp [AC.src] at h
    · rename_i hn
      rw [hi] at h
      simp only [Option.some.injEq] at h; subst h
      simpa using hn
  · rename_i hn; rw [hn] at h; cases h

theorem invSV_rel {ob : Nat → Ob} (ids : List Nat) {x : SV} {v : Value} (h : SVRel w ι ob x v) : SVRel w ι ob (invSV ids x) v := by
  cases x with
  | one c =>
    refine ⟨invAC_rel ids h.1, fun hn => h.2 fun e => hn ?_⟩
    subst e; rfl
  | agg cs =>
    obtain ⟨arr, e, ha⟩ := h
    exact ⟨arr, e, All2.map_left _ (ha.imp fun c u hc => ⟨invAC_rel ids hc.1, hc.2⟩)⟩

theorem invAV_rel {ob : Nat → Ob} (ids : List Nat) {x : AV} {v : Value} (h : AVRel w ι ob x v) : AVRel w ι ob (invAV ids x) v := by
  cases x with
  | sv x => exact invSV_rel ids h
  | tup l =>
    obtain ⟨arr, e, ha⟩ := h
    exact ⟨arr, e, All2.map_left _ (ha.imp fun c u hc => invSV_rel ids hc)⟩

theorem invSV_src (ids : List Nat) {x : SV} {c : AC} (hc : c ∈ (invSV ids x).acs) {id : Nat} (h : c.src = some id) : id ∉ ids := by
  cases x with
  | one y => simp [invSV, SV.acs] at hc; subst hc; exact invAC_src ids h
  | agg cs => simp [invSV, SV.acs] at hc; obtain ⟨y, _, rfl⟩ := hc; exact invAC_src ids h

theorem invAV_src (ids : List Nat) {x : AV} {c : AC} (hc : c ∈ (invAV ids x).acs) {id : Nat} (h : c.src = some id) : id ∉ ids := by
  cases x with
  | sv x => exact invSV_src ids hc h
  | tup l =>
    simp only [invAV, AV.acs, List.mem_flatMap, List.mem_map] at hc
    obtain ⟨y, ⟨z, _, rfl⟩, hc⟩ := hc
    exact invSV_src ids hc h

theorem reg_inval (i : Nat) (ids : List Nat) (s : St) (t : Nat) : (s.inval (i :: ids)).reg t = invAV (i :: ids) (s.reg t) := by
  simp only [St.inval, St.reg, List.getD_eq_getElem?_getD, List.getElem?_map]
  cases s.regs[t]? with
  | none => rfl
  | some x => rfl

theorem obj_inval (i : Nat) (ids : List Nat) (s : St) (t : Nat) : (s.inval (i :: ids)).obj t = invOb (i :: ids) (s.obj t) := by
  simp only [St.inval, St.obj, List.getD_eq_getElem?_getD, List.getElem?_map]
  cases s.objs[t]? with
  | none => rfl
  | some x => rfl

theorem ext_refl {ob ob' : Nat → Ob} (h : ∀ i, OStep w w ι ι True i (ob i) (ob' i)) : Ext (fun _ => True) w ι ob w ι ob' := ⟨fun b hb => ⟨hb, rfl⟩, h⟩

theorem Rel.inval (h : Rel E s ι a w) (ids : List Nat) : Rel E (s.inval ids) ι a w := by
  cases ids with
  | nil => exact h
  | cons i ids =>
    have hx : Ext (fun _ => True) w ι s.obj w ι (s.inval (i :: ids)).obj := ext_refl fun k => by
      rw [obj_inval]
      cases s.obj k <;> simp [invOb, OStep] <;> exact fun b hb => .inl hb
    refine Rel.step h hx (fun t => .inr ?_) (by simp [St.inval]) rfl (fun k => .inr ?_) h.disj h.gfp h.own h.lt h.glt (fun _ _ _ => rfl) (Nat.le_refl _) rfl rfl
    · rw [reg_inval]
      exact invAV_rel _ (AVRel.ext hx (fun _ _ _ _ => trivial) (h.regs t))
    · rw [obj_inval]
      have := h.objs k
      cases hk : s.obj k with
      | free => rw [hk] at this; exact this
      | dead => rw [hk] at this; exact this
      | box cs =>
        rw [hk] at this
        obtain ⟨h1, arr, ty, h2, h3⟩ := this
        exact ⟨h1, arr, ty, h2, All2.map_left _ (h3.imp fun c v hc => ⟨invAC_rel _ (ACRel.ext hx (fun _ _ => trivial) hc.1), hc.2⟩)⟩
      | arr own sz es => rw [hk] at this; exact this
      | map nn k f => rw [hk] at this; exact this

theorem splice_length {α : Type} {off : Nat} {l cs : List α} (h : off + l.length ≤ cs.length) : (splice off l cs).length = cs.length := by
  simp only [splice, List.length_append, List.length_take, List.length_drop]; omega

theorem splice_get {α : Type} {off : Nat} {l cs : List α} (h : off + l.length ≤ cs.length) (k : Nat) :
    (splice off l cs)[k]? = if off ≤ k ∧ k < off + l.length then l[k - off]? else cs[k]? := by
  simp only [splice]
  by_cases h1 : k < off
  · rw [if_neg (by omega), List.append_assoc, List.getElem?_append_left (by rw [List.length_take]; omega), List.getElem?_take, if_pos h1]
  · by_cases h2 : k < off + l.length
    · rw [if_pos (by omega), List.append_assoc, List.getElem?_append_right (by rw [List.length_take]; omega), List.getElem?_append_left (by rw [List.length_take]; omega)]
      congr 1; rw [List.length_take]; omega
    · rw [if_neg (by omega), List.getElem?_append_right (by rw [List.length_append, List.length_take]; omega)]
      rw [List.getElem?_drop]
      congr 1; rw [List.length_append, List.length_take]; omega

/-! ### a row with some cells written -/
theorem ownsRow_splice {e : TypeId} {sz n g o : Nat} {v : Value} {xs vs : List Value} (h : w.ownsRow 0 e sz v n xs) (hg : v.ownBlock = some g) (hfit : o + vs.length ≤ xs.length) :
    ∃ cur ty, w.heap[g]? = some (.cells cur ty (0, 0)) ∧ xs.length ≤ cur.size ∧ (w.setRow g (splice o vs cur.toList).toArray).ownsRow 0 e sz v n (splice o vs xs) := by
  rcases h.2 with ⟨rfl, _⟩ | ⟨g', cap, cur, rfl, hb, hgg, hnc, hcm, hcs, htake⟩
  · simp [Value.ownBlock] at hg
  · simp only [Value.ownBlock, Option.some.injEq] at hg
    subst hg
    have hxl := h.1
    have hle : n * sz ≤ cur.size := by rw [hcs]; exact Nat.mul_le_mul_right _ hnc
    refine ⟨cur, e, hgg, by rw [hxl]; exact hle, ?_, .inr ⟨g', cap, _, rfl, hb, setRow_heap w g' cur _ e _ hgg, hnc, hcm, ?_, ?_⟩⟩
    · simp only [splice, List.length_append, List.length_take, List.length_drop]; omega
    · simp only [splice, List.size_toArray, List.length_append, List.length_take, List.length_drop, Array.length_toList]; omega
    · rw [← htake] at hfit ⊢
      apply List.ext_getElem?
      intro k
      have h1 : o + vs.length ≤ cur.toList.length := Nat.le_trans hfit (List.length_take_le' _ _)
      rw [splice_get hfit, List.getElem?_take, splice_get h1, List.getElem?_take]
      rw [List.length_take] at hfit
      by_cases hk : k < n * sz
      · simp [hk]
      · rw [if_neg hk, if_neg hk, if_neg (by omega)]

theorem flatten_set {α : Type} {sz : Nat} : ∀ {es : List (List α)} {i : Nat} {e cs : List α} {off : Nat}, (∀ x ∈ es, x.length = sz) → es[i]? = some e → off + cs.length ≤ e.length →
    (es.set i (splice off cs e)).flatten = splice (i * sz + off) cs es.flatten
  | [], i, e, cs, off, _, h, _ => by simp at h
  | x :: es, 0, e, cs, off, hsz, h, hf => by
    simp only [List.getElem?_cons_zero, Option.some.injEq] at h
    subst h
    simp only [List.set_cons_zero, List.flatten_cons, Nat.zero_mul, Nat.zero_add, splice]
    rw [List.take_append_of_le_length (by omega), List.drop_append_of_le_length (by omega)]
    simp only [List.append_assoc]
  | x :: es, i + 1, e, cs, off, hsz, h, hf => by
    have ih := flatten_set (es := es) (fun y hy => hsz y (List.mem_cons_of_mem _ hy)) (by simpa using h) hf
    have hx : x.length = sz := hsz x List.mem_cons_self
    have e1 : (i + 1) * sz + off = x.length + (i * sz + off) := by rw [hx, Nat.add_mul, Nat.one_mul]; omega
    rw [List.set_cons_succ, List.flatten_cons, ih, List.flatten_cons]
    simp only [splice, e1]
    rw [List.take_append, List.drop_append]
    simp only [List.append_assoc, Nat.add_sub_cancel_left, show x.length + (i * sz + off) + cs.length - x.length = i * sz + off + cs.length by omega]
    rw [List.take_of_length_le (l := x) (by omega), List.drop_of_length_le (l := x) (by omega), List.nil_append]


/-! ### the store -/
theorem Rel.setArr (h : Rel E s ι a w) {id : Nat} {own : Bool} {sz : Nat} {es : List (List Cell)} (hob : s.obj id = .arr own sz es) (hreg : ∀ t, ∀ c ∈ (s.reg t).acs, ∀ i, c.src = some i → i ≠ id)
    (hbox : ∀ k, ∀ c ∈ (s.obj k).acs, ∀ i, c.src = some i → i ≠ id) {ids : List Nat} (hids : ∀ j ∈ ids, isArr (s.obj j)) (hnin : id ∉ ids) {i off g : Nat} {e cs : List Cell} {vs : List Value} (he : es[i]? = some e) (hfit : off + cs.length ≤ e.length)
    (hg : (ι.sl id).ownBlock = some g) (hvl : vs.length = cs.length) {Fs2 : Nat → Nat → Prop} (a3 : ∀ k b, Fs2 k b → ∃ j ∈ ids, ι.fp j b) (a4 : ∀ k k' b, k ≠ k' → Fs2 k b → ¬ Fs2 k' b)
    (a5 : ∀ (k : Nat) (v : Value) (c : Cell), vs[k]? = some v → cs[k]? = some c → Nest w ι.G own (Fs2 k) v c) :
    ∃ cur ty ι', w.heap[g]? = some (.cells cur ty (0, 0)) ∧ i * sz + off + vs.length ≤ cur.size ∧
      Rel E ((s.updObs (killed ids)).setOb id (.arr own sz (es.set i (splice off cs e)))) ι' a (w.setRow g (splice (i * sz + off) vs cur.toList).toArray) := by
  have hor := h.objs id
  rw [hob] at hor
  obtain ⟨e0, xs, Fs, h1, h2, h3, h4, h5, h6, h7, h0⟩ := hor
  have hlx : xs.length = es.flatten.length := by rw [h1.1, flatten_length h2]
  have hel : e.length = sz := h2 e (List.mem_of_getElem? he)
  have hil : i < es.length := (List.getElem?_eq_some_iff.1 he).1
  have hfit2 : i * sz + off + vs.length ≤ xs.length := by
    rw [h1.1, hvl]
    have : (i + 1) * sz ≤ es.length * sz := Nat.mul_le_mul_right _ hil
    rw [Nat.add_mul, Nat.one_mul] at this
    omega
  obtain ⟨cur, ty, hcur, hle, hrow⟩ := ownsRow_splice (o := i * sz + off) (vs := vs) h1 hg hfit2
  let w' := w.setRow g (splice (i * sz + off) vs cur.toList).toArray
  have hlenid : id < s.objs.length := lt_of_obj hob (by simp)
  have hlen : ∀ j ∈ ids, j < s.objs.length := fun j hj => by
    obtain ⟨o, z, e, hjo⟩ := hids j hj
    exact lt_of_obj hjo (by simp)
  have hobj : ∀ k, ((s.updObs (killed ids)).setOb id (.arr own sz (es.set i (splice off cs e)))).obj k = if k = id then .arr own sz (es.set i (splice off cs e)) else if k ∈ ids then .dead else s.obj k := by
    intro k
    rw [obj_setOb (by rw [updObs_length]; exact hlenid), obj_killed ids s hlen]
  have hgfp : ι.fp id g := h3 g hg
  have hother : ∀ b, b ≠ g → w'.heap[b]? = w.heap[b]? := fun b hb => setRow_other w g b _ hb
  let ι' : Interp := { ι with fp := fun k b => if k = id then ι.fp id b ∨ ∃ j ∈ ids, ι.fp j b else if k ∈ ids then False else ι.fp k b }
  have hfpo : ∀ k b, k ≠ id → ι.fp k b → b ≠ g := fun k b hk hb e => h.disj k id b hk hb (by rw [e]; exact hgfp)
  have hx : Ext (fun k => k ≠ id) w ι s.obj w' ι' ((s.updObs (killed ids)).setOb id (.arr own sz (es.set i (splice off cs e)))).obj := by
    refine ⟨fun b hb => ⟨hb, hother b fun e => h.gfp id b (by rw [e]; exact hgfp) hb⟩, fun k => ?_⟩
    rw [hobj k]
    by_cases hk : k = id
    · subst hk; rw [if_pos rfl, hob]; exact ⟨rfl, rfl, fun hk => (hk rfl).elim⟩
    · rw [if_neg hk]
      by_cases hk2 : k ∈ ids
      · rw [if_pos hk2]
        obtain ⟨o, z, e, hjo⟩ := hids k hk2
        rw [hjo]; trivial
      · rw [if_neg hk2]
        cases hkk : s.obj k with
        | free => trivial
        | dead => trivial
        | box cs => rfl
        | arr own' sz' es' => exact ⟨rfl, rfl, fun _ b hb => ⟨.inl (by simp [ι', hk, hk2, hb]), hother b (hfpo k b hk hb)⟩⟩
        | map _ _ _ => exact ⟨rfl, rfl, rfl, fun _ b hb => ⟨.inl (by simp [ι', hk, hk2, hb]), hother b (hfpo k b hk hb)⟩⟩
  have hfp : ∀ k b, ι'.fp k b → (k = id ∧ (ι.fp id b ∨ ∃ j ∈ ids, ι.fp j b)) ∨ (k ≠ id ∧ k ∉ ids ∧ ι.fp k b) := by
    intro k b hb
    simp only [ι'] at hb
    split at hb
    · exact .inl ⟨‹_›, hb⟩
    · split at hb
      · exact hb.elim
      · exact .inr ⟨‹_›, ‹_›, hb⟩
  have hcross : ∀ b, (ι.fp id b ∨ ∃ j ∈ ids, ι.fp j b) → ∀ k, k ≠ id → k ∉ ids → ¬ ι.fp k b := by
    intro b hb k h8 h9 hk
    rcases hb with hb | ⟨j, hj, hjb⟩
    · exact h.disj k id b h8 hk hb
    · exact h.disj k j b (fun e => h9 (e ▸ hj)) hk hjb
  refine ⟨cur, ty, ι', hcur, Nat.le_trans hfit2 hle, Rel.step h hx (fun t => .inl ⟨?_, fun c hc i' hi' => hreg t c hc i' hi'⟩) ?_ (updObs_m _ _) (fun k => ?_) ?_ ?_ ?_ ?_ ?_ (fun b hb hM => hother b fun e => ?_) (by simp) rfl rfl⟩
  · show ((s.updObs (killed ids)).setOb id _).regs.getD t _ = _
    simp only [St.setOb, updObs_regs]; rfl
  · simp only [St.setOb, updObs_regs]
  · rw [hobj k]
    by_cases hk : k = id
    · subst hk; right
      rw [if_pos rfl]
      have hfl := flatten_set h2 he hfit
      have hsl : (splice off cs e).length = e.length := splice_length hfit
      have hfit3 : i * sz + off + cs.length ≤ es.flatten.length := by rw [← hlx, ← hvl]; exact hfit2
      refine ⟨e0, splice (i * sz + off) vs xs, fun k b => if i * sz + off ≤ k ∧ k < i * sz + off + vs.length then Fs2 (k - (i * sz + off)) b else Fs k b, by rw [List.length_set]; exact hrow, ?_, ?_, ?_, ?_, ?_, ?_, fun hn => h0 (by simpa using hn)⟩
      · intro x hxm
        rcases List.mem_or_eq_of_mem_set hxm with hm | rfl
        · exact h2 x hm
        · rw [hsl, hel]
      · intro b hb; simp only [ι', if_true]; exact .inl (h3 b hb)
      · intro k2 b hb
        simp only [ι', if_true]
        split at hb
        · exact .inr (a3 _ b hb)
        · exact .inl (h4 _ b hb)
      · intro k2 b hb hk2
        split at hk2
        · obtain ⟨j, hj, hjb⟩ := a3 _ b hk2
          exact h.disj j k b (fun e => hnin (e ▸ hj)) hjb (h3 b hb)
        · exact h5 _ b hb hk2
      · intro k2 k3 b hne hb hb'
        split at hb <;> split at hb'
        · exact a4 _ _ b (by omega) hb hb'
        · obtain ⟨j, hj, hjb⟩ := a3 _ b hb
          exact h.disj j k b (fun e => hnin (e ▸ hj)) hjb (h4 _ b hb')
        · obtain ⟨j, hj, hjb⟩ := a3 _ b hb'
          exact h.disj j k b (fun e => hnin (e ▸ hj)) hjb (h4 _ b hb)
        · exact h6 k2 k3 b hne hb hb'
      · intro k2 u c hu hc
        rw [hfl, splice_get hfit3] at hc
        rw [splice_get hfit2] at hu
        rw [← hvl] at hc
        by_cases hin : i * sz + off ≤ k2 ∧ k2 < i * sz + off + vs.length
        · rw [if_pos hin] at hu hc
          simp only [hin, and_self, if_true]
          refine (a5 _ u c hu hc).mono (fun b hb => ⟨hb, hother b fun e => h.gfp k b (by rw [e]; exact hgfp) hb⟩) fun b hb => hother b ?_
          obtain ⟨j, hj, hjb⟩ := a3 _ b hb
          exact hfpo j b (fun e => hnin (e ▸ hj)) hjb
        · rw [if_neg hin] at hu hc
          simp only [hin, if_false]
          refine (h7 _ u c hu hc).mono (fun b hb => ⟨hb, hother b fun e => h.gfp k b (by rw [e]; exact hgfp) hb⟩) fun b hb => hother b fun e => ?_
          subst e
          exact h5 _ b hg hb
    · rw [if_neg hk]
      by_cases hk2 : k ∈ ids
      · right
        rw [if_pos hk2]
        intro b hb
        rcases hfp k b hb with ⟨h8, _⟩ | ⟨_, h8, _⟩
        · exact hk h8
        · exact h8 hk2
      · left
        rw [if_neg hk2]
        exact ⟨rfl, ⟨rfl, rfl, fun b => by simp [ι', hk, hk2], fun b hb => hother b (hfpo k b hk hb)⟩, hbox k⟩
  · intro k k' b hkk hi hj
    rcases hfp k b hi with ⟨rfl, h8⟩ | ⟨h8, h9, h10⟩ <;> rcases hfp k' b hj with ⟨rfl, k1⟩ | ⟨k1, k2, k3⟩
    · exact hkk rfl
    · exact hcross b h8 k' k1 k2 k3
    · exact hcross b k1 k h8 h9 h10
    · exact h.disj k k' b hkk h10 k3
  · intro k b hi hgb
    rcases hfp k b hi with ⟨rfl, h8 | ⟨j, _, hjb⟩⟩ | ⟨h8, h9, h10⟩
    · exact h.gfp k b h8 hgb
    · exact h.gfp j b hjb hgb
    · exact h.gfp k b h10 hgb
  · intro k b hi
    rcases hfp k b hi with ⟨rfl, h8 | ⟨j, _, hjb⟩⟩ | ⟨h8, h9, h10⟩
    · exact h.own k b h8
    · exact h.own j b hjb
    · exact h.own k b h10
  · intro k b hi
    simp only [size_setRow]
    rcases hfp k b hi with ⟨rfl, h8 | ⟨j, _, hjb⟩⟩ | ⟨h8, h9, h10⟩
    · exact h.lt k b h8
    · exact h.lt j b hjb
    · exact h.lt k b h10
  · intro b hb; simp only [size_setRow]; exact h.glt b hb
  · subst e
    rcases h.own id b hgfp with h8 | h8
    · exact hM h8
    · omega

/-- the word at a write into an array: the element that stands there, and what is to be said of the array then -/
def storeWord : List Orc → Option (List Cell × Option (List (List Cell)) × List Orc)
  | .cells e :: q => some (e, none, q)
  | .take e es _ :: q => some (e, some es, q)
  | _ => none

def stored (es : List (List Cell)) (es' : Option (List (List Cell))) : List (List Cell) := match es' with | some es' => es' | none => es
def storedItems (es : List (List Cell)) (es' : Option (List (List Cell))) : List Item := match es' with | some es' => [.obl (es = es')] | none => []

theorem stored_ok {es : List (List Cell)} {es' : Option (List (List Cell))} {K : Prop} (vc : VC (storedItems es es') K) : stored es es' = es ∧ K := by
  cases es' with
  | none => exact ⟨rfl, vc⟩
  | some x => exact ⟨vc.1.symm, vc.2⟩

def eStoreArr (P : Program) (s : St) (T : TypeId) (ad x : Operand) (q : List Orc) : Option (Res × List Item × List Orc) :=
  match s.ac ad, s.ev x with
  | some (.eptr id i off), some (.sv v) => match s.obj id, svCells v, tsize P T, storeWord q with
    | .arr own sz es, some l, some n, some (e, es', q') =>
      (match (match own with | true => absorbOwn s l | false => (absorbShr l).map fun cs => (cs, [])) with
      | some (cs, ids) => if l.length = n ∧ off + n ≤ e.length ∧ ids.elem id = false then
          some ({ inv := [id], upd := killed ids ++ [(id, .arr own sz (stored (es.set i (splice off cs e)) es'))] }, .obl (es[i]? = some e) :: storedItems (es.set i (splice off cs e)) es', q') else none
      | none => none)
    | _, _, _, _ => none
  | _, _ => none

theorem updObs_append : ∀ (l r : List (Nat × Ob)) (s : St), s.updObs (l ++ r) = (s.updObs l).updObs r
  | [], r, s => rfl
  | (n, o) :: l, r, s => by simp only [List.cons_append, St.updObs]; exact updObs_append l r _

theorem killed_inval (ids : List Nat) (i : Nat) (s : St) : ∀ j, isArr (s.obj j) → isArr ((s.inval [i]).obj j) := by
  intro j ⟨own, sz, es, h⟩
  refine ⟨own, sz, es, ?_⟩
  rw [obj_inval, h]; rfl

theorem eStoreArr_sound (h : Rel E s ι a w) {o : Oper} {T : TypeId} {ad x : Operand} (ho : o.op = .store T ad x) {n : Nat} {r : Res} {q q' : List Orc} {it : List Item} {K : Prop}
    (e : eStoreArr P s T ad x q = some (r, it, q')) (vc : VC it K) : EOK P E s a w o n r ∧ K := by
  unfold eStoreArr at e
  split at e
  · rename_i id i off v had hxv
    split at e
    · rename_i own sz es l m el es9 q1 hob hl hT hq9
      split at e
      · rename_i cs ids habs
        split at e
        · rename_i hc
          simp only [Option.some.injEq, Prod.mk.injEq] at e
          obtain ⟨rfl, rfl, rfl⟩ := e
          obtain ⟨hel, hK⟩ := vc
          obtain ⟨hst, hK⟩ := stored_ok hK
          refine ⟨?_, hK⟩
          rw [hst]
          have hv := svCells_rel hl (ev_rel h hxv)
          obtain ⟨a1, a2, Fs, a3, a4, a5⟩ : (∀ j ∈ ids, isArr (s.obj j)) ∧ cs.length = l.length ∧ ∃ Fs : Nat → Nat → Prop, (∀ k b, Fs k b → ∃ j ∈ ids, ι.fp j b) ∧ (∀ k k' b, k ≠ k' → Fs k b → ¬ Fs k' b) ∧
              ∀ (k : Nat) (v : Value) (c : Cell), (a.eval x).cells.toList[k]? = some v → cs[k]? = some c → Nest w ι.G own (Fs k) v c := by
            cases own with
            | true => exact absorbOwn_ok h habs hv
            | false =>
              simp only [Option.map_eq_some_iff, Prod.mk.injEq] at habs
              obtain ⟨cs', hcs, rfl, rfl⟩ := habs
              have h2 := absorbShr_ok hcs hv
              exact ⟨by simp, by rw [← h2.length, ← hv.length], fun _ _ => False, by simp, by simp, fun k v c hv hc => h2.get hv hc⟩
          obtain ⟨b, hb, hp⟩ := (ac_rel h had).2 _ _ _ hob
          have hvl : (a.eval x).cells.toList.length = cs.length := by rw [← hv.length, a2]
          have hfit : off + cs.length ≤ el.length := by rw [a2, hc.1]; exact hc.2.1
          have h1 := h.inval [id]
          have hob1 : (s.inval [id]).obj id = .arr own sz es := by rw [obj_inval, hob]; rfl
          obtain ⟨cur, ty, ι', k1, k2, k3⟩ := Rel.setArr h1 hob1 (fun t c hc i' hi' e => by
              rw [reg_inval] at hc
              exact invAV_src _ hc hi' (by simp [e])) (fun k c hc i' hi' e => by
              rw [obj_inval] at hc
              cases hk : s.obj k with
              | box l2 => rw [hk] at hc; simp [invOb, Ob.acs] at hc; obtain ⟨y, _, rfl⟩ := hc; exact invAC_src _ hi' (by simp [e])
              | free => rw [hk] at hc; simp [invOb, Ob.acs] at hc
              | dead => rw [hk] at hc; simp [invOb, Ob.acs] at hc
              | map _ _ _ => rw [hk] at hc; simp [invOb, Ob.acs] at hc
              | arr _ _ _ => rw [hk] at hc; simp [invOb, Ob.acs] at hc) (fun j hj => killed_inval ids id s j (a1 j hj)) (by simpa using hc.2.2) hel hfit hb hvl a3 a4 a5
          have hlen : (a.eval x).cells.toList.length = m := by rw [← hv.length]; exact hc.1
          have hone : ∀ u ∈ (a.eval x).cells.toList, u.oneCell' = true := by
            intro u hu
            obtain ⟨k, hk⟩ := List.getElem?_of_mem hu
            obtain ⟨c, _, hc⟩ := hv.flip.get_left hk
            exact hc.2
          refine EOK.skip (ι' := ι') (w' := w.setRow b (splice (i * sz + off) (a.eval x).cells.toList cur.toList).toArray) ?_ ?_ top_rel
          · simp only [execOp, ho, hp]
            rw [Sem.run_bind, run_storeAt hT k1 hlen (by rw [← hlen]; exact k2) hone]
            rfl
          · simp only [St.app, St.setObs, updObs_append]
            exact k3
        · cases e
      · cases e
    · cases e
  · cases e

end
end Go.Proofs.Ytamcedjjlokfhaa.Ab
