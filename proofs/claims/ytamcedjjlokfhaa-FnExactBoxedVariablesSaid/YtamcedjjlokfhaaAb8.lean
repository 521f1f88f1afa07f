/- The abstract machine, part 8: new objects, stores into boxes, struct literals. No condition. -/
import Derived.Test.YtamcedjjlokfhaaAb7
namespace Go.Proofs.Ytamcedjjlokfhaa.Ab
open Go
set_option linter.unusedVariables false

def St.setOb (s : St) (n : Nat) (o : Ob) : St := { s with objs := s.objs.set n o }

theorem obj_setOb {s : St} {n : Nat} (hn : n < s.objs.length) (o : Ob) (i : Nat) : (s.setOb n o).obj i = if i = n then o else s.obj i := by
  simp only [St.setOb, St.obj, List.getD_eq_getElem?_getD, List.getElem?_set]
  by_cases h : n = i
  · subst h; simp [hn]
  · simp [h, Ne.symm h]

theorem reg_setOb (s : St) (n : Nat) (o : Ob) (t : Nat) : (s.setOb n o).reg t = s.reg t := rfl

theorem lt_of_obj {s : St} {i : Nat} {o : Ob} (h : s.obj i = o) (ho : o ≠ .free) : i < s.objs.length := by
  rcases Nat.lt_or_ge i s.objs.length with hl | hl
  · exact hl
  · exfalso; apply ho; rw [← h]; simp [St.obj, hl]

section
variable {P : Program} {E : Ent} {s : St} {ι : Interp} {a : Act} {w : World}

theorem ext_fresh {n : Nat} (hf : s.obj n = .free) (hn : n < s.objs.length) (o : Ob) {w' : World} {ι' : Interp} (hglt : ∀ b, ι.G b → b < w.heap.size) (hlt : ∀ i b, ι.fp i b → b < w.heap.size)
    (hG : ι'.G = ι.G) (hsame : ∀ i, i ≠ n → ι'.blk i = ι.blk i ∧ ι'.sl i = ι.sl i ∧ ∀ b, ι'.fp i b ↔ ι.fp i b) (hw : ∀ b, b < w.heap.size → w'.heap[b]? = w.heap[b]?) :
    Ext (fun _ => True) w ι s.obj w' ι' (s.setOb n o).obj where
  g b hb := by rw [hG]; exact ⟨hb, hw b (hglt b hb)⟩
  o id := by
    rw [obj_setOb hn]
    by_cases h : id = n
    · subst h; rw [hf]; trivial
    · rw [if_neg h]
      obtain ⟨h1, h2, h3⟩ := hsame id h
      cases e : s.obj id with
      | free => trivial
      | dead => trivial
      | box cs => exact h1
      | arr own sz es => exact ⟨h2, rfl, fun _ b hb => ⟨.inl ((h3 b).2 hb), hw b (hlt _ b hb)⟩⟩
      | map nn k f => exact ⟨h1, rfl, rfl, fun _ b hb => ⟨.inl ((h3 b).2 hb), hw b (hlt _ b hb)⟩⟩

theorem Rel.fresh (h : Rel E s ι a w) {n : Nat} (hf : s.obj n = .free) (hn : n < s.objs.length) (o : Ob) {w' : World} {ι' : Interp}
    (hG : ι'.G = ι.G) (hsame : ∀ i, i ≠ n → ι'.blk i = ι.blk i ∧ ι'.sl i = ι.sl i ∧ ∀ b, ι'.fp i b ↔ ι.fp i b)
    (hfp : ∀ b, ι'.fp n b → w.heap.size ≤ b ∧ b < w'.heap.size) (hw : ∀ b, b < w.heap.size → w'.heap[b]? = w.heap[b]?) (hsz : w.heap.size ≤ w'.heap.size) (os : w'.os = w.os) (out : w'.output = w.output)
    (hr : ObRel w' ι' (s.setOb n o).obj n o) : Rel E (s.setOb n o) ι' a w' := by
  have hx := ext_fresh hf hn o (w' := w') h.glt h.lt hG hsame hw
  refine Rel.step h hx (fun t => .inl ⟨rfl, fun _ _ _ _ => trivial⟩) rfl rfl (fun i => ?_) ?_ ?_ ?_ ?_ ?_ (fun b hb _ => hw b (Nat.lt_of_lt_of_le hb h.size)) hsz os out (hG := fun b hb => .inl (by rwa [hG] at hb))
  · by_cases hi : i = n
    · subst hi; right; rw [obj_setOb hn, if_pos rfl]; exact hr
    · left
      obtain ⟨h1, h2, h3⟩ := hsame i hi
      exact ⟨by rw [obj_setOb hn, if_neg hi], ⟨h1, h2, h3, fun b hb => hw b (h.lt i b hb)⟩, fun _ _ _ _ => trivial⟩
  · intro i j b hij hi hj
    by_cases h1 : i = n <;> by_cases h2 : j = n
    · omega
    · subst h1
      have := (hfp b hi).1
      have := h.lt j b (((hsame j h2).2.2 b).1 hj)
      omega
    · subst h2
      have := (hfp b hj).1
      have := h.lt i b (((hsame i h1).2.2 b).1 hi)
      omega
    · exact h.disj i j b hij (((hsame i h1).2.2 b).1 hi) (((hsame j h2).2.2 b).1 hj)
  · intro i b hi hg
    rw [hG] at hg
    by_cases h1 : i = n
    · subst h1
      have := (hfp b hi).1
      have := h.glt b hg
      omega
    · exact h.gfp i b (((hsame i h1).2.2 b).1 hi) hg
  · intro i b hi
    by_cases h1 : i = n
    · subst h1
      have := (hfp b hi).1
      have := h.size
      exact .inr (by omega)
    · exact h.own i b (((hsame i h1).2.2 b).1 hi)
  · intro i b hi
    by_cases h1 : i = n
    · subst h1; exact (hfp b hi).2
    · have := h.lt i b (((hsame i h1).2.2 b).1 hi); omega
  · intro b hb
    rw [hG] at hb
    have := h.glt b hb; omega

theorem heap_alloc_lt (w : World) (o : Obj) (b : Nat) (h : b < w.heap.size) : (w.alloc o).heap[b]? = w.heap[b]? := by show (w.heap.push o)[b]? = w.heap[b]?; rw [Array.getElem?_push, if_neg (Nat.ne_of_lt h)]

/-- a new box -/
theorem Rel.newBox (h : Rel E s ι a w) {n : Nat} (hf : s.obj n = .free) (hn : n < s.objs.length) {cs : List AC} {arr : Array Value} (ty : TypeId) (hc : All2 (CRel w ι s.obj) cs arr.toList) :
    ∃ ι', Rel E (s.setOb n (.box cs)) ι' a (w.alloc (.cells arr ty)) ∧ SVRel (w.alloc (.cells arr ty)) ι' (s.setOb n (.box cs)).obj (.one (.ptr n 0)) (.pointer (some ⟨w.heap.size, 0, none⟩)) := by
  let ι' : Interp := { ι with blk := fun i => if i = n then w.heap.size else ι.blk i, fp := fun i b => if i = n then b = w.heap.size else ι.fp i b }
  have hsame : ∀ i, i ≠ n → ι'.blk i = ι.blk i ∧ ι'.sl i = ι.sl i ∧ ∀ b, ι'.fp i b ↔ ι.fp i b := fun i hi => ⟨by simp [ι', hi], rfl, fun b => by simp [ι', hi]⟩
  have hw := heap_alloc_lt w (.cells arr ty)
  have hx := ext_fresh hf hn (.box cs) (w' := w.alloc (.cells arr ty)) (ι' := ι') h.glt h.lt rfl hsame hw
  have hr : ObRel (w.alloc (.cells arr ty)) ι' (s.setOb n (.box cs)).obj n (.box cs) := by
    refine ⟨by simp [ι'], arr, ty, ?_, hc.imp fun c v hcv => ⟨ACRel.ext hx (fun _ _ => trivial) hcv.1, hcv.2⟩⟩
    simp only [ι', if_true]
    exact heap_alloc_new w _
  refine ⟨ι', Rel.fresh h hf hn (.box cs) (w' := w.alloc (.cells arr ty)) rfl hsame (fun b hb => ?_) hw (by simp) rfl rfl hr, ⟨?_, fun _ _ => by simp [ι']⟩, fun _ => rfl⟩
  · simp [ι'] at hb; subst hb; simp
  · unfold notFree; rw [obj_setOb hn, if_pos rfl]; trivial

def svCells : SV → Option (List AC)
  | .one .top => none
  | .one c => some [c]
  | .agg cs => some cs

theorem svCells_rel {ob : Nat → Ob} {x : SV} {cs : List AC} {v : Value} (e : svCells x = some cs) (h : SVRel w ι ob x v) : All2 (CRel w ι ob) cs v.cells.toList := by
  unfold svCells at e
  split at e
  · cases e
  · rename_i c hc
    simp only [Option.some.injEq] at e; subst e
    have h1 := h.2 hc
    have : v.cells = #[v] := by cases v <;> first | rfl | (simp [Value.oneCell'] at h1)
    rw [this]
    exact ⟨⟨h.1, h1⟩, trivial⟩
  · simp only [Option.some.injEq] at e; subst e
    obtain ⟨arr, rfl, ha⟩ := h
    exact ha

/-! ### struct literals -/

/-- a part's cells in the whole's -/
def splice {α : Type} (off : Nat) (l cs : List α) : List α := cs.take off ++ l ++ cs.drop (off + l.length)

theorem foldl_splice (off : Nat) (l : Array Value) (cs : Array Value) (h : off + l.size ≤ cs.size) :
    (l.zipIdx.foldl (fun cs (x : Value × Nat) => cs.setIfInBounds (off + x.2) x.1) cs).toList = splice off l.toList cs.toList := by
  rw [← Array.foldl_toList, Array.toList_zipIdx]
  obtain ⟨h1, h2⟩ := Great.foldl_set off l.toList 0 cs
  apply List.ext_getElem?
  intro k
  have e : ∀ (A : Array Value), A.toList[k]? = A[k]? := fun A => by simp
  rw [e, h2 k]
  have hl : l.toList.length = l.size := by simp
  simp only [splice, Nat.add_zero, hl]
  by_cases h3 : k < off
  · rw [if_neg (by omega), List.append_assoc, List.getElem?_append_left (by rw [List.length_take]; simp; omega), List.getElem?_take, if_pos h3, e]
  · by_cases h4 : k < off + l.size
    · rw [if_pos (by omega), List.append_assoc, List.getElem?_append_right (by rw [List.length_take]; omega), List.getElem?_append_left (by rw [List.length_take]; simp; omega)]
      rw [List.length_take, Array.length_toList, Nat.min_eq_left (by omega)]
    · rw [if_neg (by omega), List.getElem?_append_right (by rw [List.length_append, List.length_take]; simp; omega)]
      rw [List.length_append, List.length_take, Array.length_toList, hl, Nat.min_eq_left (by omega), List.getElem?_drop, Array.getElem?_toList]
      congr 1; omega

theorem All2.splice {α β : Type} {R : α → β → Prop} {off : Nat} {l : List α} {m : List β} {cs : List α} {ds : List β} (h1 : All2 R l m) (h2 : All2 R cs ds) : All2 R (splice off l cs) (splice off m ds) := by
  unfold Ab.splice
  rw [h1.length]
  exact ((h2.take off).append h1).append (h2.drop _)

def fillAC (place : Nat → Option (Nat × Nat)) (cells : List AC) : List (Nat × List AC) → Option (List AC)
  | [] => some cells
  | (i, l) :: rest =>
    match place i with
    | none => none
    | some (off, size) => if l.length = size ∧ off + l.length ≤ cells.length then fillAC place (splice off l cells) rest else none

theorem fillAC_sound {ob : Nat → Ob} (place : Nat → Option (Nat × Nat)) : ∀ (ps : List (Nat × List AC)) (qs : List (Nat × Value)) (cells : List AC) (arr : Array Value) (cells' : List AC),
    All2 (fun p q => p.1 = q.1 ∧ All2 (CRel w ι ob) p.2 q.2.cells.toList) ps qs → All2 (CRel w ι ob) cells arr.toList → fillAC place cells ps = some cells' →
    ∃ arr', Instr.fill place arr qs = some arr' ∧ All2 (CRel w ι ob) cells' arr'.toList
  | [], [], cells, arr, cells', _, hc, e => by
    simp only [fillAC, Option.some.injEq] at e; subst e
    exact ⟨arr, rfl, hc⟩
  | (i, l) :: ps, (j, v) :: qs, cells, arr, cells', hp, hc, e => by
    obtain ⟨⟨rfl, hl⟩, hp⟩ := hp
    simp only [fillAC] at e
    cases hpl : place i with
    | none => simp [hpl] at e
    | some os =>
      obtain ⟨off, size⟩ := os
      simp only [hpl] at e
      split at e
      · rename_i hcond
        have hvl : v.cells.size = l.length := by rw [hl.length]; simp
        have hal : arr.size = cells.length := by rw [hc.length]; simp
        have hsp := foldl_splice off v.cells arr (by omega)
        obtain ⟨arr', h1, h2⟩ := fillAC_sound place ps qs (splice off l cells) (v.cells.zipIdx.foldl (fun cs (x : Value × Nat) => cs.setIfInBounds (off + x.2) x.1) arr) cells' hp
          (by rw [hsp]; exact hl.splice hc) e
        refine ⟨arr', ?_, h2⟩
        unfold Instr.fill
        simp only [hpl]
        rw [if_neg (by simp; omega)]
        exact h1
      · cases e
  | [], _ :: _, _, _, _, h, _, _ => h.elim
  | _ :: _, [], _, _, _, h, _, _ => h.elim

end
end Go.Proofs.Ytamcedjjlokfhaa.Ab
