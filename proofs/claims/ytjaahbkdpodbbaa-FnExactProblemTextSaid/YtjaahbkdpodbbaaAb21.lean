/- The abstract machine, part 21: choosing the objects and the registers that are kept. No condition. -/
import Derived.Test.YtjaahbkdpodbbaaAb20
namespace Go.Proofs.Ytjaahbkdpodbbaa.Ab
open Go
set_option linter.unusedVariables false

def posOf : List Nat → Nat → Option Nat
  | [], _ => none
  | x :: l, i => match Nat.beq x i with
    | true => some 0
    | false => match posOf l i with
      | some j => some (j + 1)
      | none => none

theorem posOf_some : ∀ {l : List Nat} {i j : Nat}, posOf l i = some j → l[j]? = some i
  | [], i, j, h => by simp [posOf] at h
  | x :: l, i, j, h => by
    unfold posOf at h
    split at h
    · rename_i hb
      simp only [Option.some.injEq] at h; subst h
      have := Nat.eq_of_beq_eq_true hb
      simp [this]
    · split at h
      · rename_i j' hj
        simp only [Option.some.injEq] at h; subst h
        simpa using posOf_some hj
      · cases h

def AC.sel (ids : List Nat) : AC → AC
  | .ref i => match posOf ids i with | some j => .ref j | none => .top
  | .bor i c => match posOf ids i with | some j => .bor j c | none => .top
  | .ptr i o => match posOf ids i with | some j => .ptr j o | none => .top
  | .eptr i k o => match posOf ids i with | some j => .eptr j k o | none => .top
  | .iptr (some i) cs => match posOf ids i with | some j => .iptr (some j) cs | none => .top
  | c => c
def SV.sel (ids : List Nat) : SV → SV
  | .one c => .one (c.sel ids)
  | .agg cs => .agg (cs.map (AC.sel ids))
def AV.sel (ids : List Nat) : AV → AV
  | .sv x => .sv (x.sel ids)
  | .tup l => .tup (l.map (SV.sel ids))
def Ob.sel (ids : List Nat) : Ob → Ob
  | .box cs => .box (cs.map (AC.sel ids))
  | o => o

def atop : AV := .sv (.one .top)

def selRegs (ids keep : List Nat) : Nat → List AV → List AV
  | _, [] => []
  | n, v :: l => (match keep.elem n with | true => v.sel ids | false => atop) :: selRegs ids keep (n + 1) l

def St.sel (s : St) (ids keep : List Nat) : St := { regs := selRegs ids keep 0 s.regs, objs := ids.map fun i => (s.obj i).sel ids, m := s.m }

def nodupB : List Nat → Bool
  | [] => true
  | x :: l => !l.elem x && nodupB l

def selOK (m : Nat) (ids : List Nat) : Bool := nodupB ids && (ids.take m == List.range m)

section
variable {P : Program} {E : Ent} {s : St} {ι : Interp} {a : Act} {w : World}

theorem nodupB_spec : ∀ {l : List Nat}, nodupB l = true → ∀ {i j x : Nat}, l[i]? = some x → l[j]? = some x → i = j
  | [], _, i, j, x, hi, _ => by simp at hi
  | y :: l, h, i, j, x, hi, hj => by
    simp only [nodupB, Bool.and_eq_true, Bool.not_eq_true', List.elem_eq_contains] at h
    have hn : y ∉ l := by simpa using h.1
    cases i with
    | zero => cases j with
      | zero => rfl
      | succ j =>
        simp only [List.getElem?_cons_zero, Option.some.injEq] at hi; subst hi
        exact absurd (List.mem_of_getElem? (by simpa using hj)) hn
    | succ i => cases j with
      | zero =>
        simp only [List.getElem?_cons_zero, Option.some.injEq] at hj; subst hj
        exact absurd (List.mem_of_getElem? (by simpa using hi)) hn
      | succ j => rw [nodupB_spec (l := l) h.2 (i := i) (j := j) (x := x) (by simpa using hi) (by simpa using hj)]

def selI (ι : Interp) (ids : List Nat) : Interp :=
  { G := ι.G, blk := fun j => ι.blk (ids.getD j 0), sl := fun j => ι.sl (ids.getD j 0), fp := fun j b => ∃ i, ids[j]? = some i ∧ ι.fp i b }

structure Sel (ids : List Nat) (ob ob' : Nat → Ob) : Prop where
  o : ∀ j i, ids[j]? = some i → ob' j = (ob i).sel ids

variable {ids : List Nat} {ob ob' : Nat → Ob}

theorem Sel.notFree (h : Sel ids ob ob') {i j : Nat} (hj : ids[j]? = some i) (hn : Ab.notFree ob i) : Ab.notFree ob' j := by
  unfold Ab.notFree at *
  rw [h.o j i hj]
  cases e : ob i <;> simp_all [Ob.sel]

theorem Sel.arr (h : Sel ids ob ob') {i j : Nat} (hj : ids[j]? = some i) {own : Bool} {sz : Nat} {es : List (List Cell)} (e : ob' j = .arr own sz es) : ob i = .arr own sz es := by
  rw [h.o j i hj] at e
  cases e' : ob i <;> simp_all [Ob.sel]

theorem Sel.box (h : Sel ids ob ob') {i j : Nat} (hj : ids[j]? = some i) {cs : List AC} (e : ob' j = .box cs) : ∃ cs1, ob i = .box cs1 := by
  rw [h.o j i hj] at e
  cases e' : ob i <;> simp_all [Ob.sel]

theorem Sel.rdSet (h : Sel ids ob ob') {i j : Nat} (hj : ids[j]? = some i) : ∀ b, Ab.rdSet ι (some i) b → Ab.rdSet (selI ι ids) (some j) b :=
  fun b hb => hb.imp id fun hb => ⟨i, hj, hb⟩

theorem getD_of {j i : Nat} (hj : ids[j]? = some i) : ids.getD j 0 = i := by simp [hj]

theorem ACRel.sel (h : Sel ids ob ob') {c : AC} {v : Value} (r : ACRel w ι ob c v) : ACRel w (selI ι ids) ob' (c.sel ids) v := by
  cases c with
  | top => trivial
  | val c => exact r
  | ref i =>
    simp only [AC.sel]
    split
    · rename_i j hj
      have hj := posOf_some hj
      refine ⟨h.notFree hj r.1, fun own sz es e => ?_⟩
      simp only [selI, getD_of hj]
      exact r.2 _ _ _ (h.arr hj e)
    · trivial
  | bor i c =>
    simp only [AC.sel]
    split
    · rename_i j hj
      have hj := posOf_some hj
      refine ⟨h.notFree hj r.1, fun ⟨own, sz, es, e⟩ => ?_⟩
      exact Rd.mono (fun _ _ => rfl) (h.rdSet hj) (r.2 ⟨own, sz, es, h.arr hj e⟩)
    · trivial
  | ptr i o =>
    simp only [AC.sel]
    split
    · rename_i j hj
      have hj := posOf_some hj
      refine ⟨h.notFree hj r.1, fun cs e => ?_⟩
      obtain ⟨cs1, e1⟩ := h.box hj e
      simp only [selI, getD_of hj]
      exact r.2 _ e1
    · trivial
  | eptr i k o =>
    simp only [AC.sel]
    split
    · rename_i j hj
      have hj := posOf_some hj
      refine ⟨h.notFree hj r.1, fun own sz es e => ?_⟩
      simp only [selI, getD_of hj]
      exact r.2 _ _ _ (h.arr hj e)
    · trivial
  | iptr src cs =>
    cases src with
    | none => exact ⟨fun id e => (by cases e), fun hl => r.2 trivial⟩
    | some i =>
      simp only [AC.sel]
      split
      · rename_i j hj
        have hj := posOf_some hj
        refine ⟨fun id e => by cases e; exact h.notFree hj (r.1 i rfl), fun hl => ?_⟩
        obtain ⟨own, sz, es, e⟩ := hl
        obtain ⟨b, o, xs, e, hb, hx, ha⟩ := r.2 ⟨own, sz, es, h.arr hj e⟩
        exact ⟨b, o, xs, e, h.rdSet hj b hb, hx, ha.imp fun x c hc => Rd.mono (fun _ _ => rfl) (h.rdSet hj) hc⟩
      · trivial

theorem SVRel.sel (h : Sel ids ob ob') {x : SV} {v : Value} (r : SVRel w ι ob x v) : SVRel w (selI ι ids) ob' (x.sel ids) v := by
  cases x with
  | one c =>
    refine ⟨ACRel.sel h r.1, fun hn => r.2 fun e => hn ?_⟩
    subst e; rfl
  | agg cs =>
    obtain ⟨arr, e, ha⟩ := r
    exact ⟨arr, e, All2.map_left _ (ha.imp fun c u hc => ⟨ACRel.sel h hc.1, hc.2⟩)⟩

theorem AVRel.sel (h : Sel ids ob ob') {x : AV} {v : Value} (r : AVRel w ι ob x v) : AVRel w (selI ι ids) ob' (x.sel ids) v := by
  cases x with
  | sv x => exact SVRel.sel h r
  | tup l =>
    obtain ⟨arr, e, ha⟩ := r
    exact ⟨arr, e, All2.map_left _ (ha.imp fun c u hc => SVRel.sel h hc)⟩

theorem ObRel.sel (h : Sel ids ob ob') {i j : Nat} (hj : ids[j]? = some i) (r : ObRel w ι ob i (ob i)) : ObRel w (selI ι ids) ob' j (ob' j) := by
  have hf : ∀ b, (selI ι ids).fp j b ↔ ι.fp i b := fun b => ⟨fun ⟨i', e, k⟩ => by rw [hj] at e; cases e; exact k, fun k => ⟨i, hj, k⟩⟩
  rw [h.o j i hj]
  cases e : ob i with
  | free => rw [e] at r; exact fun b hb => r b ((hf b).1 hb)
  | dead => rw [e] at r; exact fun b hb => r b ((hf b).1 hb)
  | box cs =>
    rw [e] at r
    obtain ⟨r1, arr, ty, r2, r3⟩ := r
    refine ⟨(hf _).2 (by simp only [selI, getD_of hj]; exact r1), arr, ty, by simp only [selI, getD_of hj]; exact r2, All2.map_left _ (r3.imp fun c v hc => ⟨ACRel.sel h hc.1, hc.2⟩)⟩
  | arr own sz es =>
    rw [e] at r
    have hf' : (selI ι ids).fp j = ι.fp i := funext fun b => propext (hf b)
    show ArrRel w (Nest w ι.G own) sz ((selI ι ids).fp j) ((selI ι ids).sl j) es
    rw [hf']
    simp only [selI, getD_of hj]
    exact r

theorem selRegs_length (ids keep : List Nat) : ∀ (l : List AV) (n : Nat), (selRegs ids keep n l).length = l.length
  | [], _ => rfl
  | v :: l, n => by simp [selRegs, selRegs_length ids keep l]

theorem selRegs_get (ids keep : List Nat) : ∀ (l : List AV) (n t : Nat), (selRegs ids keep n l).getD t atop = (l.getD t atop).sel ids ∨ (selRegs ids keep n l).getD t atop = atop
  | [], _, _ => .inr rfl
  | v :: l, n, 0 => by
    simp only [selRegs, List.getD_cons_zero]
    split
    · exact .inl rfl
    · exact .inr rfl
  | v :: l, n, t + 1 => by
    simp only [selRegs, List.getD_cons_succ]
    exact selRegs_get ids keep l (n + 1) t

theorem Rel.sel (h : Rel E s ι a w) {ids : List Nat} (keep : List Nat) (hok : selOK s.m ids = true) : Rel E (s.sel ids keep) (selI ι ids) a w := by
  simp only [selOK, Bool.and_eq_true, beq_iff_eq] at hok
  obtain ⟨hnd, htake⟩ := hok
  have hinj : ∀ {i j x : Nat}, ids[i]? = some x → ids[j]? = some x → i = j := fun h1 h2 => nodupB_spec hnd h1 h2
  have hm : ∀ i, i < s.m → ids[i]? = some i := fun i hi => by
    have : (ids.take s.m)[i]? = some i := by rw [htake]; simp [hi]
    rwa [List.getElem?_take, if_pos hi] at this
  have hobj : ∀ j, (s.sel ids keep).obj j = match ids[j]? with | some i => (s.obj i).sel ids | none => .free := by
    intro j
    simp only [St.sel, St.obj, List.getD_eq_getElem?_getD, List.getElem?_map]
    cases ids[j]? <;> rfl
  have hs : Sel ids s.obj (s.sel ids keep).obj := ⟨fun j i e => by rw [hobj, e]⟩
  refine { len := by simp only [St.sel, selRegs_length]; exact h.len, defers := h.defers, regs := fun t => ?_, objs := fun j => ?_, disj := fun i j b hij hi hj => ?_, gfp := fun i b hi => ?_,
           own := fun i b hi => ?_, lt := fun i b hi => ?_, glt := h.glt, frame := h.frame, size := h.size, os := h.os, out := h.out, ent := fun i => ?_, gg := h.gg, gown := h.gown, ment := h.ment }
  · rcases selRegs_get ids keep s.regs 0 t with e | e
    · show AVRel w (selI ι ids) _ ((selRegs ids keep 0 s.regs).getD t atop) _
      rw [e]; exact AVRel.sel hs (h.regs t)
    · show AVRel w (selI ι ids) _ ((selRegs ids keep 0 s.regs).getD t atop) _
      rw [e]; exact top_rel
  · cases e : ids[j]? with
    | none =>
      rw [hobj, e]
      rintro b ⟨i, hi, _⟩
      rw [e] at hi; cases hi
    | some i => exact ObRel.sel hs e (h.objs i)
  · obtain ⟨i', e1, f1⟩ := hi
    obtain ⟨j', e2, f2⟩ := hj
    refine h.disj i' j' b (fun e => hij ?_) f1 f2
    subst e; exact hinj e1 e2
  · obtain ⟨i', e1, f1⟩ := hi; exact h.gfp i' b f1
  · obtain ⟨i', e1, f1⟩ := hi; exact h.own i' b f1
  · obtain ⟨i', e1, f1⟩ := hi; exact h.lt i' b f1
  · rcases Nat.lt_or_ge i s.m with hi | hi
    · have hid := hm i hi
      rw [hobj, hid]
      have := h.ent i
      cases e1 : E.ob i <;> cases e2 : s.obj i <;> simp_all [OStep, Ob.sel, selI]
    · rw [h.ment i hi]; trivial

/-! ### giving up what is owned: it is only read from now on -/
def AC.lock (id : Nat) (es : List (List Cell)) : AC → AC
  | .ref i => match Nat.beq i id with | true => .val (.list es) | false => .ref i
  | .bor i c => match Nat.beq i id with | true => .val c | false => .bor i c
  | .eptr i k o => match Nat.beq i id with | true => .top | false => .eptr i k o
  | .iptr (some i) cs => match Nat.beq i id with | true => .iptr none cs | false => .iptr (some i) cs
  | c => c
def SV.lock (id : Nat) (es : List (List Cell)) : SV → SV
  | .one c => .one (c.lock id es)
  | .agg cs => .agg (cs.map (AC.lock id es))
def AV.lock (id : Nat) (es : List (List Cell)) : AV → AV
  | .sv x => .sv (x.lock id es)
  | .tup l => .tup (l.map (SV.lock id es))
def Ob.lock (id : Nat) (es : List (List Cell)) : Ob → Ob
  | .box cs => .box (cs.map (AC.lock id es))
  | o => o

def lockObs (id : Nat) (es : List (List Cell)) : Nat → List Ob → List Ob
  | _, [] => []
  | n, o :: l => (match Nat.beq n id with | true => .dead | false => o.lock id es) :: lockObs id es (n + 1) l

def St.lock (s : St) (id : Nat) (es : List (List Cell)) : St := { s with regs := s.regs.map (AV.lock id es), objs := lockObs id es 0 s.objs }

theorem lockObs_get (id : Nat) (es : List (List Cell)) : ∀ (l : List Ob) (n i : Nat), (lockObs id es n l).getD i .free = if n + i = id ∧ i < l.length then .dead else (l.getD i .free).lock id es
  | [], n, i => by simp [lockObs, Ob.lock]
  | o :: l, n, 0 => by
    simp only [lockObs, List.getD_cons_zero, Nat.add_zero, List.length_cons, Nat.zero_lt_succ, and_true]
    by_cases h : n = id
    · subst h; simp
    · have : Nat.beq n id = false := by rw [← Bool.not_eq_true]; exact fun e => h (Nat.eq_of_beq_eq_true e)
      rw [this, if_neg h]
  | o :: l, n, i + 1 => by
    simp only [lockObs, List.getD_cons_succ, List.length_cons]
    rw [lockObs_get id es l (n + 1) i]
    congr 1
    simp only [eq_iff_iff]; constructor <;> (rintro ⟨h1, h2⟩; exact ⟨by omega, by omega⟩)

theorem Rel.lock (h : Rel E s ι a w) {id : Nat} {own : Bool} {sz : Nat} {es : List (List Cell)} (ho : s.obj id = .arr own sz es) : ∃ ι', Rel E (s.lock id es) ι' a w := by
  let ι' : Interp := { ι with G := fun b => ι.G b ∨ ι.fp id b, fp := fun i b => i ≠ id ∧ ι.fp i b }
  have hlt : id < s.objs.length := lt_of_obj ho (by simp)
  have hobj : ∀ i, (s.lock id es).obj i = if i = id then .dead else (s.obj i).lock id es := by
    intro i
    show (lockObs id es 0 s.objs).getD i .free = _
    rw [lockObs_get]
    by_cases hi : i = id
    · subst hi; simp [hlt]
    · rw [if_neg (by omega), if_neg hi]; rfl
  have hx : Ext (fun _ => True) w ι s.obj w ι' (s.lock id es).obj := by
    refine ⟨fun b hb => ⟨.inl hb, rfl⟩, fun i => ?_⟩
    rw [hobj]
    by_cases hi : i = id
    · subst hi; rw [if_pos rfl, ho]; trivial
    · rw [if_neg hi]
      cases e : s.obj i with
      | free => trivial
      | dead => trivial
      | box cs => rfl
      | arr o1 s1 e1 => exact ⟨rfl, rfl, fun _ b hb => ⟨.inl ⟨hi, hb⟩, rfl⟩⟩
  have hrow : Rd w ι'.G (ι.sl id) (.list es) := by
    have := h.objs id
    rw [ho] at this
    exact ArrRel.rd this
  have hac : ∀ {c : AC} {v : Value}, ACRel w ι s.obj c v → ACRel w ι' (s.lock id es).obj (c.lock id es) v := by
    intro c v r
    have hdef := ACRel.ext hx (fun _ _ => trivial) r
    cases c with
    | top => exact hdef
    | val c => exact hdef
    | ptr i o => exact hdef
    | ref i =>
      simp only [AC.lock]
      split
      · rename_i hb
        have := Nat.eq_of_beq_eq_true hb
        subst this
        rw [r.2 _ _ _ ho]; exact hrow
      · exact hdef
    | bor i c =>
      simp only [AC.lock]
      split
      · rename_i hb
        have := Nat.eq_of_beq_eq_true hb
        subst this
        exact Rd.mono (fun _ _ => rfl) (fun b hb => hb) (r.2 ⟨_, _, _, ho⟩)
      · exact hdef
    | eptr i k o =>
      simp only [AC.lock]
      split
      · trivial
      · exact hdef
    | iptr src cs =>
      cases src with
      | none => exact hdef
      | some i =>
        simp only [AC.lock]
        split
        · rename_i hb
          have := Nat.eq_of_beq_eq_true hb
          subst this
          refine ⟨fun _ e => (by cases e), fun _ => ?_⟩
          obtain ⟨b, o, xs, e, hb, hx, ha⟩ := r.2 ⟨_, _, _, ho⟩
          exact ⟨b, o, xs, e, hb, hx, ha.imp fun x c hc => Rd.mono (fun _ _ => rfl) (fun b hb => hb) hc⟩
        · exact hdef
  have hc : ∀ {cs : List AC} {vs : List Value}, All2 (CRel w ι s.obj) cs vs → All2 (CRel w ι' (s.lock id es).obj) (cs.map (AC.lock id es)) vs :=
    fun ha => All2.map_left _ (ha.imp fun c v hcv => ⟨hac hcv.1, hcv.2⟩)
  have hsv : ∀ {x : SV} {v : Value}, SVRel w ι s.obj x v → SVRel w ι' (s.lock id es).obj (x.lock id es) v := by
    intro x v r
    cases x with
    | one c =>
      refine ⟨hac r.1, fun hn => r.2 fun e => hn ?_⟩
      subst e; rfl
    | agg cs => obtain ⟨arr, e, ha⟩ := r; exact ⟨arr, e, hc ha⟩
  have hav : ∀ {x : AV} {v : Value}, AVRel w ι s.obj x v → AVRel w ι' (s.lock id es).obj (x.lock id es) v := by
    intro x v r
    cases x with
    | sv x => exact hsv r
    | tup l => obtain ⟨arr, e, ha⟩ := r; exact ⟨arr, e, All2.map_left _ (ha.imp fun c v hcv => hsv hcv)⟩
  refine ⟨ι', Rel.step h hx (fun t => .inr ?_) (by simp [St.lock]) rfl (fun i => .inr ?_) ?_ ?_ ?_ ?_ ?_ (fun _ _ _ => rfl) (Nat.le_refl _) rfl rfl (hG := ?_)⟩
  · have : (s.lock id es).reg t = (s.reg t).lock id es := by
      show (s.regs.map (AV.lock id es)).getD t _ = _
      simp only [List.getD_eq_getElem?_getD, List.getElem?_map, St.reg]
      cases s.regs[t]? <;> rfl
    rw [this]; exact hav (h.regs t)
  · rw [hobj]
    by_cases hi : i = id
    · rw [if_pos hi]; rintro b ⟨h1, _⟩; exact h1 hi
    · rw [if_neg hi]
      have := h.objs i
      cases e : s.obj i with
      | free => rw [e] at this; exact fun b hb => this b hb.2
      | dead => rw [e] at this; exact fun b hb => this b hb.2
      | box cs =>
        rw [e] at this
        obtain ⟨r1, arr, ty, r2, r3⟩ := this
        exact ⟨⟨hi, r1⟩, arr, ty, r2, hc r3⟩
      | arr o1 s1 e1 =>
        rw [e] at this
        have hf : ι'.fp i = ι.fp i := by funext b; simp [ι', hi]
        show ArrRel w (Nest w ι'.G o1) s1 (ι'.fp i) (ι.sl i) e1
        rw [hf]
        exact ArrRel.mono this (fun b hb => ⟨.inl hb, rfl⟩) fun _ _ => rfl
  · exact fun i j b hij hi hj => h.disj i j b hij hi.2 hj.2
  · rintro i b hi (hg | hg)
    · exact h.gfp i b hi.2 hg
    · exact h.disj i id b hi.1 hi.2 hg
  · exact fun i b hi => h.own i b hi.2
  · exact fun i b hi => h.lt i b hi.2
  · rintro b (hb | hb)
    · exact h.glt b hb
    · exact h.lt id b hb
  · rintro b (hb | hb)
    · exact .inl hb
    · exact .inr (.inl ⟨id, hb⟩)

/-! ### an empty slice becomes an array of one's own -/
theorem Rel.nilArr (h : Rel E s ι a w) (own : Bool) (sz : Nat) : ∃ ι', Rel E ((s.grow 1).setOb s.objs.length (.arr own sz [])) ι' a w ∧
    SVRel w ι' ((s.grow 1).setOb s.objs.length (.arr own sz [])).obj (.one (.ref s.objs.length)) (.slice none 0 0) := by
  have hroom := room_grow s 1 s.objs.length (Nat.le_refl _) (by omega)
  exact Rel.makeArr (h.grow 1) (n := s.objs.length) hroom.1 hroom.2 (ids := []) (by simp) (own := own) (sz := sz) (es := []) (w' := w) (v' := .slice none 0 0) (F' := fun _ => False)
    (fun _ _ _ => rfl) (Nat.le_refl _) rfl rfl (fun _ hb => hb.elim)
    ⟨0, [], fun _ _ => False, ⟨by simp, .inl ⟨rfl, rfl⟩⟩, by simp, fun b hb => by simp [Value.ownBlock] at hb, fun _ _ hb => hb, fun _ _ _ hb => hb, fun _ _ _ _ hb => hb.elim, fun j u c hu => by simp at hu⟩ rfl

def nilReg (s : St) (t : Nat) (own : Bool) (sz : Nat) : Option St :=
  match s.reg t with
  | .sv (.one (.val (.lit (.slice none 0 0)))) => some (((s.grow 1).setOb s.objs.length (.arr own sz [])).put (some t) (.sv (.one (.ref s.objs.length))))
  | _ => none

theorem nilReg_rel (h : Rel E s ι a w) {t : Nat} {own : Bool} {sz : Nat} {s' : St} (e : nilReg s t own sz = some s') : ∃ ι', Rel E s' ι' a w := by
  unfold nilReg at e
  split at e
  · rename_i ht
    simp only [Option.some.injEq] at e; subst e
    have hr := h.regs t
    rw [ht] at hr
    have hv := (Rd.lit_inv (show Rd w ι.G _ (.lit (.slice none 0 0)) from hr.1)).1
    obtain ⟨ι', h1, h2⟩ := h.nilArr own sz
    have := Rel.put h1 (some t) (x := .sv (.one (.ref s.objs.length))) (v := a.tmps.getD t undef) (by rw [hv]; exact h2)
    rw [put_self] at this
    exact ⟨ι', this⟩
  · cases e

theorem All2.set {α β : Type} {R : α → β → Prop} : ∀ {as : List α} {bs : List β} {k : Nat} {a' : α}, All2 R as bs → (∀ b, bs[k]? = some b → R a' b) → All2 R (as.set k a') bs
  | [], [], _, _, _, _ => trivial
  | _ :: _, _ :: _, 0, _, h, hr => ⟨hr _ rfl, h.2⟩
  | _ :: _, _ :: _, k + 1, _, h, hr => ⟨h.1, h.2.set fun b hb => hr b (by simpa using hb)⟩
  | [], _ :: _, _, _, h, _ => h.elim
  | _ :: _, [], _, _, h, _ => h.elim

theorem Rel.recell (h : Rel E s ι a w) {id k : Nat} {cs : List AC} (ho : s.obj id = .box cs) {c c' : AC} (hc : cs[k]? = some c)
    (hv : ∀ v, CRel w ι s.obj c v → ACRel w ι s.obj c' v) : Rel E (s.setOb id (.box (cs.set k c'))) ι a w := by
  have hlt : id < s.objs.length := lt_of_obj ho (by simp)
  have hx : Ext (fun _ => True) w ι s.obj w ι (s.setOb id (.box (cs.set k c'))).obj := ext_refl fun i => by
    rw [obj_setOb hlt]
    by_cases hi : i = id
    · subst hi; rw [if_pos rfl, ho]; rfl
    · rw [if_neg hi]; cases s.obj i <;> simp [OStep] <;> exact fun b hb => .inl hb
  refine Rel.step h hx (fun t => .inl ⟨rfl, fun _ _ _ _ => trivial⟩) rfl rfl (fun i => ?_) h.disj h.gfp h.own h.lt h.glt (fun _ _ _ => rfl) (Nat.le_refl _) rfl rfl
  by_cases hi : i = id
  · subst hi
    right
    rw [obj_setOb hlt, if_pos rfl]
    have := h.objs i
    rw [ho] at this
    obtain ⟨r1, arr, ty, r2, r3⟩ := this
    have r4 : All2 (CRel w ι s.obj) (cs.set k c') arr.toList := r3.set fun v hvk => by
      have := r3.get hc hvk
      exact ⟨hv v this, this.2⟩
    exact ⟨r1, arr, ty, r2, r4.imp fun c v hcv => ⟨ACRel.ext hx (fun _ _ => trivial) hcv.1, hcv.2⟩⟩
  · left
    exact ⟨by rw [obj_setOb hlt, if_neg hi], ⟨rfl, rfl, fun b => Iff.rfl, fun b _ => rfl⟩, fun _ _ _ _ => trivial⟩

def nilBox (s : St) (id k : Nat) (own : Bool) (sz : Nat) : Option St :=
  match s.obj id with
  | .box cs => match cs[k]? with
    | some (.val (.lit (.slice none 0 0))) => some (((s.grow 1).setOb s.objs.length (.arr own sz [])).setOb id (.box (cs.set k (.ref s.objs.length))))
    | _ => none
  | _ => none

theorem nilBox_rel (h : Rel E s ι a w) {id k : Nat} {own : Bool} {sz : Nat} {s' : St} (e : nilBox s id k own sz = some s') : ∃ ι', Rel E s' ι' a w := by
  unfold nilBox at e
  split at e
  · rename_i cs ho
    split at e
    · rename_i hk
      simp only [Option.some.injEq] at e; subst e
      have hlt : id < s.objs.length := lt_of_obj ho (by simp)
      obtain ⟨ι', h1, h2⟩ := h.nilArr own sz
      refine ⟨ι', Rel.recell h1 ?_ hk fun v hv => ?_⟩
      · rw [obj_setOb (by simp [St.grow])]
        rw [if_neg (by omega), obj_grow]; exact ho
      · have := (Rd.lit_inv (show Rd w ι'.G _ (.lit (.slice none 0 0)) from hv.1)).1
        rw [this]; exact h2.1
    · cases e
  · cases e

end
end Go.Proofs.Ytjaahbkdpodbbaa.Ab
