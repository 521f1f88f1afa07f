/- Part 3 of the machine. No condition. -/
import Derived.Test.YtclpofblehlojaaGreatQ2
import Derived.LoopN
import Derived.Orders
import Derived.ProofKit
import Derived.OpenShut
set_option linter.unusedVariables false
set_option linter.unusedSimpArgs false
section
namespace Go.Proofs.YtclpofblehlojaaGreat.Ab
open Go
inductive StuckOp (s : St) (o : Oper) (n : Nat) : Prop
inductive StuckB (b : Bool) : Prop
inductive StuckGuard (s : St) (o : Oper) : Prop
inductive StuckGhost (s : St) (g : Ghost) : Prop
inductive StuckLoop (s : St) (c : Code) : Prop
inductive StuckFin (s : St) : Prop
inductive StuckPull (s : St) (o : Oper) : Prop
inductive StuckOut (e : AEx) (s : St) : Prop
inductive StuckCode (c : Code) : Prop
inductive StuckCond (s : St) (x : Operand) : Prop
def Yz9 : Ob -> List Ob -> List Ob
 | .free, [] => []
 | o, acc => o :: acc
def Y186 : List Ob -> List Ob
 | [] => []
 | o :: l => Yz9 o (Y186 l)
theorem Y11z (o : Ob) (l : List Ob) (i : Nat) : (Yz9 o l).getD i .free = (o :: l).getD i .free := by
 cases o <;> cases l <;> first | rfl | (cases i <;> rfl)
theorem Yzn : ∀ (l : List Ob) (i : Nat), (Y186 l).getD i .free = l.getD i .free
 | [], _ => rfl
 | o :: l, i => by
  rw [Y186, Y11z]
  cases i with
  | zero => rfl
  | succ i => exact Yzn l i
def St.grow (s : St) (k : Nat) : St := { s with objs := s.objs ++ List.replicate k .free }
def St.shrink (s : St) : St := { s with objs := Y186 s.objs }
theorem Y180 (s : St) : s.shrink.obj = s.obj := funext fun i => Yzn s.objs i
theorem Yh9 (s : St) (k : Nat) : (s.grow k).obj = s.obj := by
 funext i
 simp only [St.grow, St.obj, List.getD_eq_getElem?_getD, List.getElem?_append, List.getElem?_replicate]
 by_cases h : i < s.objs.length
 ·simp [h]
 ·rw [if_neg h, List.getElem?_eq_none (Nat.le_of_not_lt h)]
  split <;> rfl
section
variable {P : Program} {E : Ent P} {s : St} {ι : Interp} {a : Act} {w : World}
theorem Rel.shrink (h : Rel E s ι a w) : Rel E s.shrink ι a w := h.sameObj rfl (Y180 s) rfl
theorem Rel.grow (h : Rel E s ι a w) (k : Nat) : Rel E (s.grow k) ι a w := h.sameObj rfl (Yh9 s k) rfl
theorem Rel.world (h : Rel E s ι a w) {w' : World} (hh : w'.heap = w.heap) (ho : w'.os = w.os) (hp : w'.output = w.output) : Rel E s ι a w' := by
 have hb : ∀ b : Nat, w'.heap[b]? = w.heap[b]? := fun b => by rw [hh]
 have hx : Ext (fun _ => True) w ι s.obj w' ι s.obj := ⟨fun b hg => ⟨hg, hb b⟩, fun i => by cases s.obj i <;> simp [Yen, hb] <;> exact fun b hf => .inl hf⟩
 refine Rel.step h hx (fun t => .inl ⟨rfl, fun _ _ _ _ => trivial⟩) rfl rfl (fun i => .inl ⟨rfl, ⟨rfl, rfl, fun b => Iff.rfl, fun b _ => hb b⟩, fun _ _ _ _ => trivial⟩)
  h.disj h.gfp h.own (by rw [hh]; exact h.lt) (by rw [hh]; exact h.glt) (fun b _ _ => hb b) (by rw [hh]; exact Nat.le_refl _) ho hp
theorem Ynr (s : St) (k : Nat) : Yhg (s.grow k) s.objs.length k := by
 intro i h1 h2
 refine ⟨?_, by simp [St.grow]; omega⟩
 rw [Yh9]
 simp [St.obj, List.getElem?_eq_none h1]
def St.bit (s : St) (t : Nat) : Option (Option Bool) := match s.reg t with
 | .sv (.one (.val (.lit (.bool b)))) => some (some b)
 | .tup [] => some none
 | _ => none
def Yj0 (ops : Array Oper) (s : St) (o : Oper) : Option Bool :=
 match o.guard with
 | none => some true
 | some (g, want) => match (ops[g]?).bind (·.dst) with
  | some t => match s.bit t with
   | some (some b) => some (b == want)
   | some none => some false
   | none => none
  | none => none
def Y1i0 : Option Bool -> Value -> Prop
 | some b, v => v = .bool b
 | none, v => ∃ arr, v = .tuple arr
theorem Y1bb {s : St} {t : Nat} {x : Option Bool} (e : s.bit t = some x) : t < s.regs.length := by
 rcases Nat.lt_or_ge t s.regs.length with h | h
 ·exact h
 ·simp [St.bit, St.reg, List.getElem?_eq_none h] at e
theorem Y141 (h : Rel E s ι a w) {t : Nat} {x : Option Bool} (e : s.bit t = some x) : ∃ v, a.tmps[t]? = some v /\ Y1i0 x v := by
 have hr := h.regs t
 have ht := Y1bb e
 rw [h.len] at ht
 refine ⟨a.tmps.getD t undef, by simp [ht], ?_⟩
 unfold St.bit at e
 split at e
 ·rename_i b hb
  simp only [Option.some.injEq] at e; subst e
  rw [hb] at hr
  exact (Rd.lit_inv (show Rd w ι.G _ (.lit (.bool b)) from hr.1)).1
 ·rename_i hb
  simp only [Option.some.injEq] at e; subst e
  rw [hb] at hr
  obtain ⟨arr, e1, e2⟩ := hr
  exact ⟨arr, e1⟩
 ·cases e
theorem Ym5 (h : Rel E s ι a w) {ops : Array Oper} {o : Oper} {b : Bool} (e : Yj0 ops s o = some b) : Region.wanted o (yielded ops a.tmps) = b := by
 unfold Yj0 at e
 unfold Region.wanted
 split at e
 ·rename_i hg; simp only [Option.some.injEq] at e; subst e; simp [hg]
 ·rename_i g want hg
  simp only [hg]
  split at e
  ·rename_i t ht
   unfold yielded
   rw [ht]
   simp only [Option.bind_some]
   split at e
   ·rename_i x hx
    simp only [Option.some.injEq] at e; subst e
    obtain ⟨v, h1, h2⟩ := Y141 h hx
    simp only [Y1i0] at h2
    subst h2
    rw [h1]; rfl
   ·rename_i hx
    simp only [Option.some.injEq] at e; subst e
    obtain ⟨v, h1, arr, rfl⟩ := Y141 h hx
    rw [h1]; rfl
   ·cases e
  ·cases e
def Y1ed (ops : Array Oper) (i : Nat) : Bool := ops.any fun o => match o.guard with | some (g, _) => g == i | none => false
def Ynu (b : Bool) : AV := .sv (.one (.val (.lit (.bool b))))
def Yxe (s : St) (t : Nat) (q : List Orc) (k : St -> List Orc -> Prop) : Prop :=
 match s.reg t with
 | .sv (.one (.val (.lit (.bool b)))) => match q with
  | .bool d :: q => b = d /\ k (s.put (some t) (Ynu d)) q
  | .br l r :: _ => (b = true -> k (s.put (some t) (Ynu true)) l) /\ (b = false -> k (s.put (some t) (Ynu false)) r)
  | _ => StuckB b
 | .tup [] => k s q
 | _ => k s q
theorem Ykn (a : Act) (t : Nat) : a.put (some t) (a.tmps.getD t undef) = a := by
 simp only [Act.put]
 congr 1
 apply Array.ext_getElem?
 intro i
 rw [Array.getElem?_setIfInBounds]
 by_cases h : t = i
 ·subst h
  by_cases hs : t < a.tmps.size
  ·simp [hs]
  ·simp [hs]
 ·simp [h]
theorem Y13m (h : Rel E s ι a w) {t : Nat} {q : List Orc} {k : St -> List Orc -> Prop} (hd : Yxe s t q k) : ∃ s' q', k s' q' /\ Rel E s' ι a w := by
 unfold Yxe at hd
 split at hd
 ·rename_i b hb
  have hr := h.regs t
  rw [hb] at hr
  have hput : ∀ d, b = d -> Rel E (s.put (some t) (Ynu d)) ι a w := by
   rintro d rfl
   have := Rel.put h (some t) (x := Ynu b) (v := a.tmps.getD t undef) hr
   rwa [Ykn] at this
  split at hd
  ·exact ⟨_, _, hd.2, hput _ hd.1⟩
  ·cases b
   ·exact ⟨_, _, hd.2 rfl, hput _ rfl⟩
   ·exact ⟨_, _, hd.1 rfl, hput _ rfl⟩
  ·cases hd
 ·exact ⟨_, _, hd, h⟩
 ·exact ⟨_, _, hd, h⟩
def Yx7 (src : Bool) (dst : Option Nat) (s : St) (q : List Orc) (k : St -> List Orc -> Prop) : Prop :=
 match src, dst with
 | true, some t => Yxe s t q k
 | _, _ => k s q
theorem Y13r (h : Rel E s ι a w) {src : Bool} {dst : Option Nat} {q : List Orc} {k : St -> List Orc -> Prop} (hd : Yx7 src dst s q k) : ∃ s' q', k s' q' /\ Rel E s' ι a w := by
 unfold Yx7 at hd
 split at hd
 ·exact Y13m h hd
 ·exact ⟨_, _, hd, h⟩
theorem Yxn {ob : Nat -> Ob} : Ye5 w ι ob (.tup []) undef := ⟨#[], rfl, trivial⟩
end
end Go.Proofs.YtclpofblehlojaaGreat.Ab
end
section
namespace Go.Proofs.YtclpofblehlojaaGreat.Ab
open Go
def Yk5 : List Nat -> Nat -> Option Nat
 | [], _ => none
 | x :: l, i => match Nat.beq x i with
  | true => some 0
  | false => match Yk5 l i with
   | some j => some (j + 1)
   | none => none
theorem Ygy : ∀ {l : List Nat} {i j : Nat}, Yk5 l i = some j -> l[j]? = some i
 | [], i, j, h => by simp [Yk5] at h
 | x :: l, i, j, h => by
  unfold Yk5 at h
  split at h
  ·rename_i hb
   simp only [Option.some.injEq] at h; subst h
   have := Nat.eq_of_beq_eq_true hb
   simp [this]
  ·split at h
   ·rename_i j' hj
    simp only [Option.some.injEq] at h; subst h
    simpa using Ygy hj
   ·cases h
def AC.sel (ids : List Nat) : AC -> AC
 | .ref i => match Yk5 ids i with | some j => .ref j | none => .top
 | .bor i c => match Yk5 ids i with | some j => .bor j c | none => .top
 | .ptr i o => match Yk5 ids i with | some j => .ptr j o | none => .top
 | .eptr i k o => match Yk5 ids i with | some j => .eptr j k o | none => .top
 | .iptr (some i) cs => match Yk5 ids i with | some j => .iptr (some j) cs | none => .top
 | .sub i k p => match Yk5 ids i with | some j => .sub j k p | none => .top
 | .mref i => match Yk5 ids i with | some j => .mref j | none => .top
 | c => c
def SV.sel (ids : List Nat) : SV -> SV
 | .one c => .one (c.sel ids)
 | .agg cs => .agg (cs.map (AC.sel ids))
def AV.sel (ids : List Nat) : AV -> AV
 | .sv x => .sv (x.sel ids)
 | .tup l => .tup (l.map (SV.sel ids))
def Ob.sel (ids : List Nat) : Ob -> Ob
 | .box cs => .box (cs.map (AC.sel ids))
 | o => o
def Yk6 : AV := .sv (.one .top)
def Yi8 (ids keep : List Nat) : Nat -> List AV -> List AV
 | _, [] => []
 | n, v :: l => (match keep.elem n with | true => v.sel ids | false => Yk6) :: Yi8 ids keep (n + 1) l
def St.sel (s : St) (ids keep : List Nat) : St := { regs := Yi8 ids keep 0 s.regs, objs := ids.map fun i => (s.obj i).sel ids, m := s.m }
def Yuk : List Nat -> Bool
 | [] => true
 | x :: l => !l.elem x && Yuk l
def Yun (m : Nat) (ids : List Nat) : Bool := Yuk ids && (ids.take m == List.range m)
section
variable {P : Program} {E : Ent P} {s : St} {ι : Interp} {a : Act} {w : World}
theorem Yse : ∀ {l : List Nat}, Yuk l = true -> ∀ {i j x : Nat}, l[i]? = some x -> l[j]? = some x -> i = j
 | [], _, i, j, x, hi, _ => by simp at hi
 | y :: l, h, i, j, x, hi, hj => by
  simp only [Yuk, Bool.and_eq_true, Bool.not_eq_true', List.elem_eq_contains] at h
  have hn : y ∉ l := by simpa using h.1
  cases i with
  | zero => cases j with
   | zero => rfl
   | succ j =>
    simp only [List.getElem?_cons_zero, Option.some.injEq] at hi; subst hi
    exact absurd (List.mem_of_getElem? (by simpa using hj)) hn
  | succ i => cases j with
   | zero =>
    simp only [List.getElem?_cons_zero, Option.some.injEq] at hj; subst hj
    exact absurd (List.mem_of_getElem? (by simpa using hi)) hn
   | succ j => rw [Yse (l := l) h.2 (i := i) (j := j) (x := x) (by simpa using hi) (by simpa using hj)]
def Yg9 (ι : Interp) (ids : List Nat) : Interp :=
 { G := ι.G, blk := fun j => ι.blk (ids.getD j 0), sl := fun j => ι.sl (ids.getD j 0), fp := fun j b => ∃ i, ids[j]? = some i /\ ι.fp i b }
structure Sel (ids : List Nat) (ob ob' : Nat -> Ob) : Prop where
 o : ∀ j i, ids[j]? = some i -> ob' j = (ob i).sel ids
variable {ids : List Nat} {ob ob' : Nat -> Ob}
theorem Sel.notFree (h : Sel ids ob ob') {i j : Nat} (hj : ids[j]? = some i) (hn : Ab.notFree ob i) : Ab.notFree ob' j := by
 unfold Ab.notFree at *
 rw [h.o j i hj]
 cases e : ob i <;> simp_all [Ob.sel]
theorem Sel.arr (h : Sel ids ob ob') {i j : Nat} (hj : ids[j]? = some i) {own : Bool} {sz : Nat} {es : List (List Cell)} (e : ob' j = .arr own sz es) : ob i = .arr own sz es := by
 rw [h.o j i hj] at e
 cases e' : ob i <;> simp_all [Ob.sel]
theorem Sel.box (h : Sel ids ob ob') {i j : Nat} (hj : ids[j]? = some i) {cs : List AC} (e : ob' j = .box cs) : ∃ cs1, ob i = .box cs1 := by
 rw [h.o j i hj] at e
 cases e' : ob i <;> simp_all [Ob.sel]
theorem Sel.map (h : Sel ids ob ob') {i j : Nat} (hj : ids[j]? = some i) {nn : Bool} {k : MK} {f : Value -> Option Cell} (e : ob' j = .map nn k f) : ob i = .map nn k f := by
 rw [h.o j i hj] at e
 cases e' : ob i <;> simp_all [Ob.sel]
theorem Sel.reads (h : Sel ids ob ob') {i j : Nat} (hj : ids[j]? = some i) (e : (ob' j).reads) : (ob i).reads := by
 rw [h.o j i hj] at e
 cases e' : ob i <;> simp_all [Ob.sel, Ob.reads]
theorem Sel.rdSet (h : Sel ids ob ob') {i j : Nat} (hj : ids[j]? = some i) : ∀ b, Ab.rdSet ι (some i) b -> Ab.rdSet (Yg9 ι ids) (some j) b :=
 fun b hb => hb.imp id fun hb => ⟨i, hj, hb⟩
theorem Yix {j i : Nat} (hj : ids[j]? = some i) : ids.getD j 0 = i := by simp [hj]
theorem Ye4.sel (h : Sel ids ob ob') {c : AC} {v : Value} (r : Ye4 w ι ob c v) : Ye4 w (Yg9 ι ids) ob' (c.sel ids) v := by
 cases c with
 | top => trivial
 | val c => exact r
 | ref i =>
  simp only [AC.sel]
  split
  ·rename_i j hj
   have hj := Ygy hj
   refine ⟨h.notFree hj r.1, fun own sz es e => ?_⟩
   simp only [Yg9, Yix hj]
   exact r.2 _ _ _ (h.arr hj e)
  ·trivial
 | bor i c =>
  simp only [AC.sel]
  split
  ·rename_i j hj
   have hj := Ygy hj
   refine ⟨h.notFree hj r.1, fun e => ?_⟩
   exact Rd.mono (fun _ _ => rfl) (h.rdSet hj) (r.2 (h.reads hj e))
  ·trivial
 | ptr i o =>
  simp only [AC.sel]
  split
  ·rename_i j hj
   have hj := Ygy hj
   refine ⟨h.notFree hj r.1, fun cs e => ?_⟩
   obtain ⟨cs1, e1⟩ := h.box hj e
   simp only [Yg9, Yix hj]
   exact r.2 _ e1
  ·trivial
 | eptr i k o =>
  simp only [AC.sel]
  split
  ·rename_i j hj
   have hj := Ygy hj
   refine ⟨h.notFree hj r.1, fun own sz es e => ?_⟩
   simp only [Yg9, Yix hj]
   exact r.2 _ _ _ (h.arr hj e)
  ·trivial
 | iptr src cs =>
  cases src with
  | none => exact ⟨fun id e => (by cases e), fun hl => r.2 trivial⟩
  | some i =>
   simp only [AC.sel]
   split
   ·rename_i j hj
    have hj := Ygy hj
    refine ⟨fun id e => by cases e; exact h.notFree hj (r.1 i rfl), fun hl => ?_⟩
    obtain ⟨b, o, xs, e, hb, hx, ha⟩ := r.2 (h.reads hj hl)
    exact ⟨b, o, xs, e, h.rdSet hj b hb, hx, ha.imp fun x c hc => Rd.mono (fun _ _ => rfl) (h.rdSet hj) hc⟩
   ·trivial
 | sub i k p =>
  simp only [AC.sel]
  split
  ·rename_i j hj
   have hj := Ygy hj
   refine ⟨h.notFree hj r.1, fun own sz es e => ?_⟩
   obtain ⟨b, h1, h2, h3⟩ := r.2 _ _ _ (h.arr hj e)
   refine ⟨b, ?_, h.rdSet hj b h2, h3⟩
   simp only [Yg9, Yix hj]; exact h1
  ·trivial
 | mref i =>
  simp only [AC.sel]
  split
  ·rename_i j hj
   have hj := Ygy hj
   refine ⟨h.notFree hj r.1, fun nn k f e => ?_⟩
   simp only [Yg9, Yix hj]
   exact r.2 _ _ _ (h.map hj e)
  ·trivial
theorem Yea.sel (h : Sel ids ob ob') {x : SV} {v : Value} (r : Yea w ι ob x v) : Yea w (Yg9 ι ids) ob' (x.sel ids) v := by
 cases x with
 | one c =>
  refine ⟨Ye4.sel h r.1, fun hn => r.2 fun e => hn ?_⟩
  subst e; rfl
 | agg cs =>
  obtain ⟨arr, e, ha⟩ := r
  exact ⟨arr, e, Ydf.map_left _ (ha.imp fun c u hc => ⟨Ye4.sel h hc.1, hc.2⟩)⟩
theorem Ye5.sel (h : Sel ids ob ob') {x : AV} {v : Value} (r : Ye5 w ι ob x v) : Ye5 w (Yg9 ι ids) ob' (x.sel ids) v := by
 cases x with
 | sv x => exact Yea.sel h r
 | tup l =>
  obtain ⟨arr, e, ha⟩ := r
  exact ⟨arr, e, Ydf.map_left _ (ha.imp fun c u hc => Yea.sel h hc)⟩
theorem Yfu.sel (h : Sel ids ob ob') {i j : Nat} (hj : ids[j]? = some i) (r : Yfu w ι ob i (ob i)) : Yfu w (Yg9 ι ids) ob' j (ob' j) := by
 have hf : ∀ b, (Yg9 ι ids).fp j b ↔ ι.fp i b := fun b => ⟨fun ⟨i', e, k⟩ => by rw [hj] at e; cases e; exact k, fun k => ⟨i, hj, k⟩⟩
 rw [h.o j i hj]
 cases e : ob i with
 | free => rw [e] at r; exact fun b hb => r b ((hf b).1 hb)
 | dead => rw [e] at r; exact fun b hb => r b ((hf b).1 hb)
 | box cs =>
  rw [e] at r
  obtain ⟨r1, arr, ty, r2, r3⟩ := r
  refine ⟨(hf _).2 (by simp only [Yg9, Yix hj]; exact r1), arr, ty, by simp only [Yg9, Yix hj]; exact r2, Ydf.map_left _ (r3.imp fun c v hc => ⟨Ye4.sel h hc.1, hc.2⟩)⟩
 | arr own sz es =>
  rw [e] at r
  have hf' : (Yg9 ι ids).fp j = ι.fp i := funext fun b => propext (hf b)
  show Ydz w (Yem w ι.G own) sz ((Yg9 ι ids).fp j) ((Yg9 ι ids).sl j) es
  rw [hf']
  simp only [Yg9, Yix hj]
  exact r
 | map nn k f =>
  rw [e] at r
  cases nn with
  | true => exact ⟨fun b hb => r.1 b ((hf b).1 hb), r.2⟩
  | false =>
   show Yev w k ((Yg9 ι ids).fp j) ((Yg9 ι ids).blk j) f
   simp only [Yg9, Yix hj]
   exact Yev.mono (show Yev w k (ι.fp i) (ι.blk i) f from r) (fun x hx => ⟨i, hj, hx⟩) fun _ _ => rfl
theorem Yo6 (ids keep : List Nat) : ∀ (l : List AV) (n : Nat), (Yi8 ids keep n l).length = l.length
 | [], _ => rfl
 | v :: l, n => by simp [Yi8, Yo6 ids keep l]
theorem Ysh (ids keep : List Nat) : ∀ (l : List AV) (n t : Nat), (Yi8 ids keep n l).getD t Yk6 = (l.getD t Yk6).sel ids ∨ (Yi8 ids keep n l).getD t Yk6 = Yk6
 | [], _, _ => .inr rfl
 | v :: l, n, 0 => by
  simp only [Yi8, List.getD_cons_zero]
  split
  ·exact .inl rfl
  ·exact .inr rfl
 | v :: l, n, t + 1 => by
  simp only [Yi8, List.getD_cons_succ]
  exact Ysh ids keep l (n + 1) t
theorem Rel.sel (h : Rel E s ι a w) {ids : List Nat} (keep : List Nat) (hok : Yun s.m ids = true) : Rel E (s.sel ids keep) (Yg9 ι ids) a w := by
  simp only [Yun, Bool.and_eq_true, beq_iff_eq] at hok
  obtain ⟨hnd, htake⟩ := hok
  have hinj : ∀ {i j x : Nat}, ids[i]? = some x -> ids[j]? = some x -> i = j := fun h1 h2 => Yse hnd h1 h2
  have hm : ∀ i, i < s.m -> ids[i]? = some i := fun i hi => by
    have : (ids.take s.m)[i]? = some i := by rw [htake]; simp [hi]
    rwa [List.getElem?_take, if_pos hi] at this
  have hobj : ∀ j, (s.sel ids keep).obj j = match ids[j]? with | some i => (s.obj i).sel ids | none => .free := by
    intro j
    simp only [St.sel, St.obj, List.getD_eq_getElem?_getD, List.getElem?_map]
    cases ids[j]? <;> rfl
  have hs : Sel ids s.obj (s.sel ids keep).obj := ⟨fun j i e => by rw [hobj, e]⟩
  refine { len := by simp only [St.sel, Yo6]; exact h.len, defers := h.defers, regs := fun t => ?_, objs := fun j => ?_, disj := fun i j b hij hi hj => ?_, gfp := fun i b hi => ?_,
           own := fun i b hi => ?_, lt := fun i b hi => ?_, glt := h.glt, frame := h.frame, size := h.size, os := h.os, out := h.out, ent := fun i => ?_, gg := h.gg, gown := h.gown, ment := h.ment }
  · rcases Ysh ids keep s.regs 0 t with e | e
    · show Ye5 w (Yg9 ι ids) _ ((Yi8 ids keep 0 s.regs).getD t Yk6) _
      rw [e]; exact Ye5.sel hs (h.regs t)
    · show Ye5 w (Yg9 ι ids) _ ((Yi8 ids keep 0 s.regs).getD t Yk6) _
      rw [e]; exact Yjp
  · cases e : ids[j]? with
    | none =>
      rw [hobj, e]
      rintro b ⟨i, hi, _⟩
      rw [e] at hi; cases hi
    | some i => exact Yfu.sel hs e (h.objs i)
  · obtain ⟨i', e1, f1⟩ := hi
    obtain ⟨j', e2, f2⟩ := hj
    refine h.disj i' j' b (fun e => hij ?_) f1 f2
    subst e; exact hinj e1 e2
  · obtain ⟨i', e1, f1⟩ := hi; exact h.gfp i' b f1
  · obtain ⟨i', e1, f1⟩ := hi; exact h.own i' b f1
  · obtain ⟨i', e1, f1⟩ := hi; exact h.lt i' b f1
  · rcases Nat.lt_or_ge i s.m with hi | hi
    · have hid := hm i hi
      rw [hobj, hid]
      have := h.ent i
      cases e1 : E.ob i <;> cases e2 : s.obj i <;> simp_all [Yen, Ob.sel, Yg9]
    · rw [h.ment i hi]; trivial
def AC.lock (id : Nat) (es : List (List Cell)) : AC -> AC
 | .ref i => match Nat.beq i id with | true => .val (.list es) | false => .ref i
 | .bor i c => match Nat.beq i id with | true => .val c | false => .bor i c
 | .eptr i k o => match Nat.beq i id with | true => .top | false => .eptr i k o
 | .iptr (some i) cs => match Nat.beq i id with | true => .iptr none cs | false => .iptr (some i) cs
 | .sub i k p => match Nat.beq i id with | true => .top | false => .sub i k p
 | c => c
def SV.lock (id : Nat) (es : List (List Cell)) : SV -> SV
 | .one c => .one (c.lock id es)
 | .agg cs => .agg (cs.map (AC.lock id es))
def AV.lock (id : Nat) (es : List (List Cell)) : AV -> AV
 | .sv x => .sv (x.lock id es)
 | .tup l => .tup (l.map (SV.lock id es))
def Ob.lock (id : Nat) (es : List (List Cell)) : Ob -> Ob
 | .box cs => .box (cs.map (AC.lock id es))
 | o => o
def Yl1 (id : Nat) (es : List (List Cell)) : Nat -> List Ob -> List Ob
 | _, [] => []
 | n, o :: l => (match Nat.beq n id with | true => .dead | false => o.lock id es) :: Yl1 id es (n + 1) l
def St.lock (s : St) (id : Nat) (es : List (List Cell)) : St := { s with regs := s.regs.map (AV.lock id es), objs := Yl1 id es 0 s.objs }
theorem Ysr (id : Nat) (es : List (List Cell)) : ∀ (l : List Ob) (n i : Nat), (Yl1 id es n l).getD i .free = if n + i = id /\ i < l.length then .dead else (l.getD i .free).lock id es
 | [], n, i => by simp [Yl1, Ob.lock]
 | o :: l, n, 0 => by
  simp only [Yl1, List.getD_cons_zero, Nat.add_zero, List.length_cons, Nat.zero_lt_succ, and_true]
  by_cases h : n = id
  ·subst h; simp
  ·have : Nat.beq n id = false := by rw [<- Bool.not_eq_true]; exact fun e => h (Nat.eq_of_beq_eq_true e)
   rw [this, if_neg h]
 | o :: l, n, i + 1 => by
  simp only [Yl1, List.getD_cons_succ, List.length_cons]
  rw [Ysr id es l (n + 1) i]
  congr 1
  simp only [eq_iff_iff]; constructor <;> (rintro ⟨h1, h2⟩; exact ⟨by omega, by omega⟩)
theorem Rel.lock (h : Rel E s ι a w) {id : Nat} {own : Bool} {sz : Nat} {es : List (List Cell)} (ho : s.obj id = .arr own sz es) : ∃ ι', Rel E (s.lock id es) ι' a w := by
 let ι' : Interp := { ι with G := fun b => ι.G b ∨ ι.fp id b, fp := fun i b => i ≠ id /\ ι.fp i b }
 have hlt : id < s.objs.length := Ydx ho (by simp)
 have hobj : ∀ i, (s.lock id es).obj i = if i = id then .dead else (s.obj i).lock id es := by
  intro i
  show (Yl1 id es 0 s.objs).getD i .free = _
  rw [Ysr]
  by_cases hi : i = id
  ·subst hi; simp [hlt]
  ·rw [if_neg (by omega), if_neg hi]; rfl
 have hx : Ext (fun _ => True) w ι s.obj w ι' (s.lock id es).obj := by
  refine ⟨fun b hb => ⟨.inl hb, rfl⟩, fun i => ?_⟩
  rw [hobj]
  by_cases hi : i = id
  ·subst hi; rw [if_pos rfl, ho]; trivial
  ·rw [if_neg hi]
   cases e : s.obj i with
   | free => trivial
   | dead => trivial
   | box cs => rfl
   | arr o1 s1 e1 => exact ⟨rfl, rfl, fun _ b hb => ⟨.inl ⟨hi, hb⟩, rfl⟩⟩
   | map _ _ _ => exact ⟨rfl, rfl, rfl, fun _ b hb => ⟨.inl ⟨hi, hb⟩, rfl⟩⟩
 have hrow : Rd w ι'.G (ι.sl id) (.list es) := by
  have := h.objs id
  rw [ho] at this
  exact Ydz.rd this
 have hac : ∀ {c : AC} {v : Value}, Ye4 w ι s.obj c v -> Ye4 w ι' (s.lock id es).obj (c.lock id es) v := by
  intro c v r
  have hdef := Ye4.ext hx (fun _ _ => trivial) r
  cases c with
  | top => exact hdef
  | val c => exact hdef
  | ptr i o => exact hdef
  | mref i => exact hdef
  | ref i =>
   simp only [AC.lock]
   split
   ·rename_i hb
    have := Nat.eq_of_beq_eq_true hb
    subst this
    rw [r.2 _ _ _ ho]; exact hrow
   ·exact hdef
  | bor i c =>
   simp only [AC.lock]
   split
   ·rename_i hb
    have := Nat.eq_of_beq_eq_true hb
    subst this
    exact Rd.mono (fun _ _ => rfl) (fun b hb => hb) (r.2 (by show (s.obj _).reads; rw [ho]; trivial))
   ·exact hdef
  | eptr i k o =>
   simp only [AC.lock]
   split
   ·trivial
   ·exact hdef
  | iptr src cs =>
   cases src with
   | none => exact hdef
   | some i =>
    simp only [AC.lock]
    split
    ·rename_i hb
     have := Nat.eq_of_beq_eq_true hb
     subst this
     refine ⟨fun _ e => (by cases e), fun _ => ?_⟩
     obtain ⟨b, o, xs, e, hb, hx, ha⟩ := r.2 (by show (s.obj _).reads; rw [ho]; trivial)
     exact ⟨b, o, xs, e, hb, hx, ha.imp fun x c hc => Rd.mono (fun _ _ => rfl) (fun b hb => hb) hc⟩
    ·exact hdef
  | sub i k p =>
   simp only [AC.lock]
   split
   ·trivial
   ·exact hdef
 have hc : ∀ {cs : List AC} {vs : List Value}, Ydf (Yf6 w ι s.obj) cs vs -> Ydf (Yf6 w ι' (s.lock id es).obj) (cs.map (AC.lock id es)) vs :=
  fun ha => Ydf.map_left _ (ha.imp fun c v hcv => ⟨hac hcv.1, hcv.2⟩)
 have hsv : ∀ {x : SV} {v : Value}, Yea w ι s.obj x v -> Yea w ι' (s.lock id es).obj (x.lock id es) v := by
  intro x v r
  cases x with
  | one c =>
   refine ⟨hac r.1, fun hn => r.2 fun e => hn ?_⟩
   subst e; rfl
  | agg cs => obtain ⟨arr, e, ha⟩ := r; exact ⟨arr, e, hc ha⟩
 have hav : ∀ {x : AV} {v : Value}, Ye5 w ι s.obj x v -> Ye5 w ι' (s.lock id es).obj (x.lock id es) v := by
  intro x v r
  cases x with
  | sv x => exact hsv r
  | tup l => obtain ⟨arr, e, ha⟩ := r; exact ⟨arr, e, Ydf.map_left _ (ha.imp fun c v hcv => hsv hcv)⟩
 refine ⟨ι', Rel.step h hx (fun t => .inr ?_) (by simp [St.lock]) rfl (fun i => .inr ?_) ?_ ?_ ?_ ?_ ?_ (fun _ _ _ => rfl) (Nat.le_refl _) rfl rfl (hG := ?_)⟩
 ·have : (s.lock id es).reg t = (s.reg t).lock id es := by
   show (s.regs.map (AV.lock id es)).getD t _ = _
   simp only [List.getD_eq_getElem?_getD, List.getElem?_map, St.reg]
   cases s.regs[t]? <;> rfl
  rw [this]; exact hav (h.regs t)
 ·rw [hobj]
  by_cases hi : i = id
  ·rw [if_pos hi]; rintro b ⟨h1, _⟩; exact h1 hi
  ·rw [if_neg hi]
   have := h.objs i
   cases e : s.obj i with
   | free => rw [e] at this; exact fun b hb => this b hb.2
   | dead => rw [e] at this; exact fun b hb => this b hb.2
   | box cs =>
    rw [e] at this
    obtain ⟨r1, arr, ty, r2, r3⟩ := this
    exact ⟨⟨hi, r1⟩, arr, ty, r2, hc r3⟩
   | arr o1 s1 e1 =>
    rw [e] at this
    have hf : ι'.fp i = ι.fp i := by funext b; simp [ι', hi]
    show Ydz w (Yem w ι'.G o1) s1 (ι'.fp i) (ι.sl i) e1
    rw [hf]
    exact Ydz.mono this (fun b hb => ⟨.inl hb, rfl⟩) fun _ _ => rfl
   | map nn k f =>
    rw [e] at this
    cases nn with
    | true => exact ⟨fun b hb => this.1 b hb.2, this.2⟩
    | false => exact Yev.mono this (fun x hx => ⟨hi, hx⟩) fun _ _ => rfl
 ·exact fun i j b hij hi hj => h.disj i j b hij hi.2 hj.2
 ·rintro i b hi (hg | hg)
  ·exact h.gfp i b hi.2 hg
  ·exact h.disj i id b hi.1 hi.2 hg
 ·exact fun i b hi => h.own i b hi.2
 ·exact fun i b hi => h.lt i b hi.2
 ·rintro b (hb | hb)
  ·exact h.glt b hb
  ·exact h.lt id b hb
 ·rintro b (hb | hb)
  ·exact .inl hb
  ·exact .inr (.inl ⟨id, hb⟩)
theorem Rel.nilArr (h : Rel E s ι a w) (own : Bool) (sz : Nat) : ∃ ι', Rel E ((s.grow 1).setOb s.objs.length (.arr own sz [])) ι' a w /\
  Yea w ι' ((s.grow 1).setOb s.objs.length (.arr own sz [])).obj (.one (.ref s.objs.length)) (.slice none 0 0) := by
 have hroom := Ynr s 1 s.objs.length (Nat.le_refl _) (by omega)
 exact Rel.makeArr (h.grow 1) (n := s.objs.length) hroom.1 hroom.2 (ids := []) (by simp) (own := own) (sz := sz) (es := []) (w' := w) (v' := .slice none 0 0) (F' := fun _ => False)
  (fun _ _ _ => rfl) (Nat.le_refl _) rfl rfl (fun _ hb => hb.elim)
  ⟨0, [], fun _ _ => False, ⟨by simp, .inl ⟨rfl, rfl⟩⟩, by simp, fun b hb => by simp [Value.ownBlock] at hb, fun _ _ hb => hb, fun _ _ _ hb => hb, fun _ _ _ _ hb => hb.elim, fun j u c hu => by simp at hu, fun _ => ⟨none, rfl⟩⟩ rfl
def Y127 (s : St) (t : Nat) (own : Bool) (sz : Nat) : Option St :=
 match s.reg t with
 | .sv (.one (.val (.lit (.slice none 0 0)))) => some (((s.grow 1).setOb s.objs.length (.arr own sz [])).put (some t) (.sv (.one (.ref s.objs.length))))
 | _ => none
theorem Y184 (h : Rel E s ι a w) {t : Nat} {own : Bool} {sz : Nat} {s' : St} (e : Y127 s t own sz = some s') : ∃ ι', Rel E s' ι' a w := by
 unfold Y127 at e
 split at e
 ·rename_i ht
  simp only [Option.some.injEq] at e; subst e
  have hr := h.regs t
  rw [ht] at hr
  have hv := (Rd.lit_inv (show Rd w ι.G _ (.lit (.slice none 0 0)) from hr.1)).1
  obtain ⟨ι', h1, h2⟩ := h.nilArr own sz
  have := Rel.put h1 (some t) (x := .sv (.one (.ref s.objs.length))) (v := a.tmps.getD t undef) (by rw [hv]; exact h2)
  rw [Ykn] at this
  exact ⟨ι', this⟩
 ·cases e
theorem Ydf.set {α β : Type} {R : α -> β -> Prop} : ∀ {as : List α} {bs : List β} {k : Nat} {a' : α}, Ydf R as bs -> (∀ b, bs[k]? = some b -> R a' b) -> Ydf R (as.set k a') bs
 | [], [], _, _, _, _ => trivial
 | _ :: _, _ :: _, 0, _, h, hr => ⟨hr _ rfl, h.2⟩
 | _ :: _, _ :: _, k + 1, _, h, hr => ⟨h.1, h.2.set fun b hb => hr b (by simpa using hb)⟩
 | [], _ :: _, _, _, h, _ => h.elim
 | _ :: _, [], _, _, h, _ => h.elim
theorem Rel.recell (h : Rel E s ι a w) {id k : Nat} {cs : List AC} (ho : s.obj id = .box cs) {c c' : AC} (hc : cs[k]? = some c)
  (hv : ∀ v, Yf6 w ι s.obj c v -> Ye4 w ι s.obj c' v) : Rel E (s.setOb id (.box (cs.set k c'))) ι a w := by
 have hlt : id < s.objs.length := Ydx ho (by simp)
 have hx : Ext (fun _ => True) w ι s.obj w ι (s.setOb id (.box (cs.set k c'))).obj := Ypd fun i => by
  rw [Ydc hlt]
  by_cases hi : i = id
  ·subst hi; rw [if_pos rfl, ho]; rfl
  ·rw [if_neg hi]; cases s.obj i <;> simp [Yen] <;> exact fun b hb => .inl hb
 refine Rel.step h hx (fun t => .inl ⟨rfl, fun _ _ _ _ => trivial⟩) rfl rfl (fun i => ?_) h.disj h.gfp h.own h.lt h.glt (fun _ _ _ => rfl) (Nat.le_refl _) rfl rfl
 by_cases hi : i = id
 ·subst hi
  right
  rw [Ydc hlt, if_pos rfl]
  have := h.objs i
  rw [ho] at this
  obtain ⟨r1, arr, ty, r2, r3⟩ := this
  have r4 : Ydf (Yf6 w ι s.obj) (cs.set k c') arr.toList := r3.set fun v hvk => by
   have := r3.get hc hvk
   exact ⟨hv v this, this.2⟩
  exact ⟨r1, arr, ty, r2, r4.imp fun c v hcv => ⟨Ye4.ext hx (fun _ _ => trivial) hcv.1, hcv.2⟩⟩
 ·left
  exact ⟨by rw [Ydc hlt, if_neg hi], ⟨rfl, rfl, fun b => Iff.rfl, fun b _ => rfl⟩, fun _ _ _ _ => trivial⟩
def Y11o (s : St) (id k : Nat) (own : Bool) (sz : Nat) : Option St :=
 match s.obj id with
 | .box cs => match cs[k]? with
  | some (.val (.lit (.slice none 0 0))) => some (((s.grow 1).setOb s.objs.length (.arr own sz [])).setOb id (.box (cs.set k (.ref s.objs.length))))
  | _ => none
 | _ => none
theorem Y179 (h : Rel E s ι a w) {id k : Nat} {own : Bool} {sz : Nat} {s' : St} (e : Y11o s id k own sz = some s') : ∃ ι', Rel E s' ι' a w := by
 unfold Y11o at e
 split at e
 ·rename_i cs ho
  split at e
  ·rename_i hk
   simp only [Option.some.injEq] at e; subst e
   have hlt : id < s.objs.length := Ydx ho (by simp)
   obtain ⟨ι', h1, h2⟩ := h.nilArr own sz
   refine ⟨ι', Rel.recell h1 ?_ hk fun v hv => ?_⟩
   ·rw [Ydc (by simp [St.grow])]
    rw [if_neg (by omega), Yh9]; exact ho
   ·have := (Rd.lit_inv (show Rd w ι'.G _ (.lit (.slice none 0 0)) from hv.1)).1
    rw [this]; exact h2.1
  ·cases e
 ·cases e
end
end Go.Proofs.YtclpofblehlojaaGreat.Ab
end
section
namespace Go.Proofs.YtclpofblehlojaaGreat.Ab
open Go
structure Le (s s' : St) : Prop where
 reg : ∀ t, s.reg t = .sv (.agg []) ∨ s'.reg t = s.reg t
 obj : ∀ i, (s.obj i = .free ∨ s.obj i = .dead) ∨ s'.obj i = s.obj i
section
variable {P : Program} {s s' : St}
theorem Le.ev (h : Le s s') {x : Operand} {v : AV} (e : s.ev x = some v) : s'.ev x = some v := by
 cases x with
 | tmp t =>
  simp only [St.ev] at e ⊢
  rcases h.reg t with h1 | h1
  ·rw [h1] at e; cases e
  ·rw [h1]; exact e
 | _ => exact e
theorem Le.ac (h : Le s s') {x : Operand} {v : AC} (e : s.ac x = some v) : s'.ac x = some v := by
 unfold St.ac at e ⊢
 split at e
 ·rename_i c hc; rw [h.ev hc]; exact e
 ·cases e
theorem Le.lit (h : Le s s') {x : Operand} {v : Value} (e : s.lit x = some v) : s'.lit x = some v := by
 unfold St.lit at e ⊢
 split at e
 ·rename_i c hc; rw [h.ac hc]; exact e
 ·cases e
theorem Le.int (h : Le s s') {x : Operand} {v : IntKind × Int} (e : s.int x = some v) : s'.int x = some v := by
 unfold St.int at e ⊢
 split at e
 ·rename_i c hc; rw [h.lit hc]; exact e
 ·cases e
theorem Le.litS (h : Le s s') {x : Operand} {v : List UInt8} (e : Ab.litS s x = some v) : Ab.litS s' x = some v := by
 unfold Ab.litS at e ⊢
 split at e
 ·rename_i c hc; rw [h.lit hc]; exact e
 ·cases e
theorem Le.arr (h : Le s s') {i : Nat} {own : Bool} {sz : Nat} {es : List (List Cell)} (e : s.obj i = .arr own sz es) : s'.obj i = .arr own sz es := by
 rcases h.obj i with (h1 | h1) | h1
 ·rw [h1] at e; cases e
 ·rw [h1] at e; cases e
 ·rw [h1]; exact e
theorem Le.box (h : Le s s') {i : Nat} {cs : List AC} (e : s.obj i = .box cs) : s'.obj i = .box cs := by
 rcases h.obj i with (h1 | h1) | h1
 ·rw [h1] at e; cases e
 ·rw [h1] at e; cases e
 ·rw [h1]; exact e
theorem Le.map (h : Le s s') {i : Nat} {nn : Bool} {k : MK} {f : Value -> Option Cell} (e : s.obj i = .map nn k f) : s'.obj i = .map nn k f := by
 rcases h.obj i with (h1 | h1) | h1
 ·rw [h1] at e; cases e
 ·rw [h1] at e; cases e
 ·rw [h1]; exact e
theorem Le.live (h : Le s s') {src : Option Nat} (e : Yj7 s src = true) : Yj7 s' src = true := by
 unfold Yj7 at e ⊢
 cases src with
 | none => rfl
 | some id =>
  simp only at e ⊢
  split at e
  ·rename_i hb; rw [h.arr hb]
  ·rename_i hb; rw [h.map hb]
  ·cases e
theorem Le.ptrLive (h : Le s s') {c : AC} (e : Ab.ptrLive s c = true) : Ab.ptrLive s' c = true := by
 unfold Ab.ptrLive at e ⊢
 cases c with
 | ptr id o =>
  simp only at e ⊢
  split at e
  ·rename_i hb; rw [h.box hb]
  ·cases e
 | eptr id i o =>
  simp only at e ⊢
  split at e
  ·rename_i hb; rw [h.arr hb]
  ·cases e
 | iptr src cs => exact h.live e
 | _ => cases e
theorem Le.readAt (h : Le s s') {x : AC} {n : Nat} {q : List Orc} {r : List AC × List Item × List Orc} (e : Ab.readAt s x n q = some r) : Ab.readAt s' x n q = some r := by
 unfold Ab.readAt at e ⊢
 cases x with
 | ptr id o =>
  simp only at e ⊢
  split at e
  ·rename_i hb; rw [h.box hb]; exact e
  ·cases e
 | iptr src cs =>
  simp only at e ⊢
  split at e
  ·rename_i hc; rw [if_pos ⟨h.live hc.1, hc.2⟩]; exact e
  ·cases e
 | eptr id i o =>
  simp only at e ⊢
  split at e
  ·rename_i hb; rw [h.arr hb]; exact e
  ·cases e
 | val c => cases c <;> first | exact e | cases e
 | _ => cases e
theorem Le.idxAddr (h : Le s s') {sz : Nat} {n : Int} {q : List Orc} {c : AC} {r : AC × List Item × List Orc} (e : Ab.idxAddr s sz n q c = some r) : Ab.idxAddr s' sz n q c = some r := by
 unfold Ab.idxAddr at e ⊢
 split at e
 ·exact e
 ·split at e
  ·split at e
   ·rename_i hc; (try simp only); rw [if_pos ⟨hc.1, h.live hc.2⟩]; exact e
   ·cases e
  ·cases e
 ·split at e
  ·rename_i hb; (try simp only); rw [h.arr hb]; exact e
  ·cases e
 ·cases e
theorem Le.elems (h : Le s s') {c : AC} {r : Option Nat × List (List Cell)} (e : Ab.elems s c = some r) : Ab.elems s' c = some r := by
 unfold Ab.elems at e ⊢
 split at e
 ·exact e
 ·exact e
 ·split at e
  ·rename_i hc; (try simp only); rw [if_pos (h.live hc)]; exact e
  ·cases e
 ·split at e
  ·rename_i hb; (try simp only); rw [h.arr hb]; exact e
  ·cases e
 ·cases e
theorem Le.bound (h : Le s s') {d : Nat} {x : Option Operand} {r : Nat × List Item} (e : Ab.bound s d x = some r) : Ab.bound s' d x = some r := by
 cases x with
 | none => exact e
 | some x =>
  simp only [Ab.bound] at e ⊢
  split at e
  ·rename_i hb; rw [h.int hb]; exact e
  ·cases e
theorem Le.vSlice (h : Le s s') {T : TypeId} {x : Operand} {lo hi mx : Option Operand} {q : List Orc} {r : AV × List Item × List Orc} (e : Ab.vSlice P s T x lo hi mx q = some r) : Ab.vSlice P s' T x lo hi mx q = some r := by
 unfold Ab.vSlice at e ⊢
 cases mx with
 | some _ => cases e
 | none =>
  simp only at e ⊢
  split at e
  ·split at e
   ·rename_i hl
    split at e
    ·rename_i h1 h2; rw [h.litS hl]; (try simp only); rw [h.bound h1, h.bound h2]; exact e
    ·cases e
   ·cases e
  ·split at e
   ·rename_i hc ht
    rw [h.ac hc, ht]; (try simp only)
    split at e
    ·rename_i h1 h2
     rw [h.elems h1, h2]; (try simp only)
     split at e
     ·rename_i h3 h4; rw [h.bound h3, h.bound h4]; exact e
     ·cases e
    ·cases e
   ·cases e
theorem Le.vBuiltin (h : Le s s') {b : Builtin} {args : Array Operand} {tys : Array TypeId} {q : List Orc} {r : AV × List Item × List Orc} (e : Ab.vBuiltin P s b args tys q = some r) : Ab.vBuiltin P s' b args tys q = some r := by
 unfold Ab.vBuiltin at e ⊢
 split at e
 ·(try simp only)
  split at e
  ·rename_i h1 h2
   split at e
   ·rename_i ht; (try rw [ht]); (try simp only)
    split at e
    ·rename_i hl; rw [h.litS hl]; exact e
    ·cases e
   ·rename_i ht; (try rw [ht]); (try simp only)
    split at e
    ·rename_i hc hs
     rw [h.ac hc, hs]; (try simp only)
     unfold Y11g at e ⊢
     split at e
     ·rename_i hob; rw [h.arr hob]; exact e
     ·cases e
    ·rename_i c hne hc hs
     rw [h.ac hc, hs]
     cases c with
     | sub id i p => exact (hne id i p rfl).elim
     | _ =>
     (try simp only)
     obtain ⟨y, hy, rfl⟩ := Option.map_eq_some_iff.1 e
     rw [h.elems hy]; rfl
    ·cases e
  ·cases e
 ·(try simp only)
  split at e
  ·rename_i h1
   split at e
   ·rename_i h2 h3; rw [h.int h2, h.int h3]; exact e
   ·cases e
  ·cases e
 ·(try simp only)
  split at e
  ·rename_i h1
   split at e
   ·rename_i h2 h3; rw [h.int h2, h.int h3]; exact e
   ·cases e
  ·cases e
 ·cases e
theorem Yvt (h : Le s s') {α : Type} {x : Operand} {f : AV -> α} {r : α} (e : (s.ev x).map f = some r) : (s'.ev x).map f = some r := by
 obtain ⟨y, hy, rfl⟩ := Option.map_eq_some_iff.1 e
 rw [h.ev hy]; rfl
theorem Le.mkClo (h : Le s s') {fn : Fn} {fi ca : Array Operand} {q : List Orc} {r : AV × List Item × List Orc} (e : Ab.mkClo s fn fi ca q = some r) : Ab.mkClo s' fn fi ca q = some r := by
 unfold Ab.mkClo at e ⊢
 cases fn with
 | func f =>
  simp only at e ⊢
  cases h1 : fi.toList with
  | cons y l => simp [h1] at e
  | nil =>
   simp only [h1] at e ⊢
   cases h2 : ca.toList with
   | nil => simp [h2] at e
   | cons y l =>
    cases l with
    | cons z l => simp [h2] at e
    | nil =>
     simp only [h2] at e ⊢
     cases h3 : s.ac y with
     | none => simp [h3] at e
     | some c => rw [h.ac h3]; rw [h3] at e; exact e
 | _ => cases e
theorem Le.vop (h : Le s s') {o : Oper} {q : List Orc} {r : AV × List Item × List Orc} (e : Ab.vop P s o q = some r) : Ab.vop P s' o q = some r := by
 unfold Ab.vop at e ⊢
 split at e
 ·rename_i ho; exact Yvt h e
 ·rename_i ho; exact Yvt h e
 ·rename_i ho; (try simp only)
  split at e
  ·rename_i hc; rw [h.lit hc]; exact Yvt h e
  ·rename_i hc; rw [h.lit hc]; exact Yvt h e
  ·cases e
 ·rename_i ho; (try simp only)
  split at e
  ·rename_i h1 h2 h3; rw [h.ac h1, h2, h3]; (try simp only)
   split at e
   ·rename_i hr; rw [h.readAt hr]; exact e
   ·cases e
  ·cases e
 ·rename_i ho; (try simp only)
  split at e
  ·rename_i hc; rw [h.ac hc]; (try simp only)
   split at e
   ·rename_i hp; rw [if_pos (h.ptrLive hp)]; exact e
   ·cases e
  ·cases e
 ·rename_i ho; (try simp only)
  split at e
  ·rename_i h1 h2; rw [h.lit h1, h.lit h2]; exact e
  ·cases e
 ·rename_i ho; (try simp only)
  split at e
  ·rename_i h1; rw [h.lit h1]; exact e
  ·cases e
 ·rename_i ho; (try simp only)
  split at e
  ·rename_i h1; rw [h.int h1]; exact e
  ·cases e
 ·rename_i ho; (try simp only)
  split at e
  ·rename_i hT; (try simp only)
   split at e
   ·rename_i hc; rw [h.ac hc]; (try simp only)
    split at e
    ·rename_i hel; rw [h.elems hel]; exact e
    ·cases e
   ·cases e
  ·rename_i hT; (try simp only)
   split at e
   ·rename_i h1 h2 h3; rw [h.int h1, h2, h3]; exact e
   ·cases e
 ·rename_i ho; (try simp only)
  split at e
  ·rename_i h1 h2; rw [h.ac h1, h2]; (try simp only)
   split at e
   ·rename_i hc; rw [if_pos ⟨hc.1, h.ptrLive hc.2⟩]; exact e
   ·cases e
  ·cases e
 ·rename_i ho; (try simp only)
  split at e
  ·rename_i h1 h2 h3; rw [h.ac h1, h.int h2, h3]; (try simp only)
   split at e
   ·rename_i ht; (try rw [ht]); (try simp only)
    obtain ⟨y, hy, rfl⟩ := Option.map_eq_some_iff.1 e
    rw [h.idxAddr hy]; rfl
   ·cases e
  ·cases e
 ·rename_i ho; (try simp only)
  split at e
  ·rename_i h1 h2 h3; rw [h1, h.litS h2, h.int h3]; exact e
  ·cases e
 ·rename_i ho; exact h.vSlice e
 ·rename_i ho; (try simp only)
  split at e
  ·rename_i h1; rw [h.ev h1]; exact e
  ·cases e
 ·rename_i ho; exact h.vBuiltin e
 ·rename_i ho; exact h.mkClo e
 ·cases e
end
end Go.Proofs.YtclpofblehlojaaGreat.Ab
end
section
namespace Go.Proofs.YtclpofblehlojaaGreat.Ab
open Go
section
variable {P : Program} {s s' : St}
theorem Le.eBox (h : Le s s') {x : Operand} {n : Nat} {r : Res} (e : Ab.eBox s x n = some r) : Ab.eBox s' x n = some r := by
 unfold Ab.eBox at e ⊢
 split at e
 ·rename_i hv; rw [h.ev hv]; exact e
 ·cases e
theorem Le.partCells (h : Le s s') : ∀ {l : List (Nat × Operand)} {r : List (Nat × List AC)}, Ab.partCells s l = some r -> Ab.partCells s' l = some r
 | [], r, e => e
 | (i, x) :: l, r, e => by
  simp only [Ab.partCells] at e ⊢
  split at e
  ·split at e
   ·rename_i h2; rw [h.partCells h2]; exact e
   ·cases e
  ·split at e
   ·rename_i hv
    rw [h.ev hv]; (try simp only)
    split at e
    ·rename_i h1 h2; rw [h1, h.partCells h2]; exact e
    ·cases e
   ·cases e
theorem Le.eBuild (h : Le s s') {T : TypeId} {ps : Array (Nat × Operand)} {r : Res} (e : Ab.eBuild P s T ps = some r) : Ab.eBuild P s' T ps = some r := by
 unfold Ab.eBuild at e ⊢
 split at e
 ·(try simp only)
  split at e
  ·rename_i h1 h2 h3; rw [h1, h2, h.partCells h3]; exact e
  ·cases e
 ·(try simp only)
  split at e
  ·rename_i h1 h2 h3
   rw [h1, h2, h.partCells h3]
   exact e
  ·cases e
 ·cases e
theorem Le.eStoreBox (h : Le s s') {T : TypeId} {ad x : Operand} {r : Res} (e : Ab.eStoreBox P s T ad x = some r) : Ab.eStoreBox P s' T ad x = some r := by
 unfold Ab.eStoreBox at e ⊢
 split at e
 ·rename_i h1 h2
  rw [h.ac h1, h.ev h2]; (try simp only)
  split at e
  ·rename_i h3 h4 h5; rw [h.box h3, h4, h5]; exact e
  ·cases e
 ·cases e
theorem Le.absorbOwn (h : Le s s') : ∀ {l : List AC} {r : List Cell × List Nat}, Ab.absorbOwn s l = some r -> Ab.absorbOwn s' l = some r
 | [], r, e => e
 | c :: l, r, e => by
  simp only [Ab.absorbOwn] at e ⊢
  split at e
  ·cases e
  ·rename_i cs ids hl
   rw [h.absorbOwn hl]; (try simp only)
   split at e
   ·exact e
   ·split at e
    ·rename_i ho; rw [h.arr ho]; exact e
    ·cases e
   ·cases e
theorem Yq1 (s s' : St) : ∀ {l : List AC} {cs : List Cell}, Yhq l = some cs -> absorbOwn s l = absorbOwn s' l
 | [], cs, e => rfl
 | c :: l, cs, e => by
  simp only [Yhq] at e
  split at e
  ·cases e
  ·rename_i cs' hl
   have ih := Yq1 s s' hl
   simp only [absorbOwn, ih]
   split at e
   ·rfl
   ·rename_i c1 _
    cases absorbOwn s' l with
    | none => rfl
    | some _ => cases c1 <;> rfl
   ·cases e
theorem Le.absorb (h : Le s s') {l : List AC} {sh : Bool} {r : Bool × List Cell × List Nat} (e : Ab.absorb s l sh = some r) : Ab.absorb s' l sh = some r := by
 unfold Ab.absorb at e ⊢
 cases sh with
 | true => exact e
 | false =>
  simp only [Bool.false_eq_true, if_false] at e ⊢
  split at e
  ·rename_i ho; rw [h.absorbOwn ho]; exact e
  ·rename_i ho
   split at e
   ·rename_i hs
    rw [<- Yq1 s s' hs, ho]; (try simp only); exact e
   ·cases e
theorem Le.srcElems (h : Le s s') {own : Bool} {sz : Nat} {c : AC} {r : List (List Cell) × List Nat × List Item} (e : Ab.srcElems s own sz c = some r) : Ab.srcElems s' own sz c = some r := by
 unfold Ab.srcElems at e ⊢
 split at e
 ·exact e
 ·exact e
 ·exact e
 ·(try simp only)
  split at e
  ·rename_i hc; rw [if_pos ⟨h.live hc.1, hc.2⟩]; exact e
  ·cases e
 ·(try simp only)
  split at e
  ·rename_i ho; rw [h.arr ho]; exact e
  ·cases e
 ·cases e
theorem Le.target (h : Le s s') {sz : Nat} {q : List Orc} {c : AC} {r : Bool × List (List Cell) × List Nat × List Orc} (e : Ab.target s sz q c = some r) : Ab.target s' sz q c = some r := by
 unfold Ab.target at e ⊢
 split at e
 ·exact e
 ·(try simp only)
  split at e
  ·rename_i ho; rw [h.arr ho]; exact e
  ·cases e
 ·cases e
theorem Le.eAppend (h : Le s s') {args : Array Operand} {tys : Array TypeId} {n : Nat} {q : List Orc} {r : Res × List Item × List Orc} (e : Ab.eAppend P s args tys n q = some r) : Ab.eAppend P s' args tys n q = some r := by
 unfold Ab.eAppend at e ⊢
 split at e
 ·(try simp only)
  split at e
  ·rename_i h1 h2 h3
   rw [h1, h.ac h2, h.ac h3]; (try simp only)
   split at e
   ·rename_i h4 h5
    try rw [h4, h5]
    try simp only
    split at e
    ·rename_i hc
     rw [if_pos hc]
     split at e
     ·rename_i ht
      rw [h.target ht]; (try simp only)
      split at e
      ·rename_i hs; rw [h.srcElems hs]; exact e
      ·cases e
     ·cases e
    ·cases e
   ·cases e
  ·cases e
 ·cases e
theorem Le.eBuildSlice (h : Le s s') {T : TypeId} {len : Nat} {ps : Array (Nat × Operand)} {n : Nat} {sh : Bool} {r : Res} (e : Ab.eBuildSlice P s T len ps n sh = some r) : Ab.eBuildSlice P s' T len ps n sh = some r := by
 unfold Ab.eBuildSlice at e ⊢
 split at e
 ·rename_i h1 h2
  rw [h1, h.partCells h2]; (try simp only)
  split at e
  ·rename_i h3
   try rw [h3]
   try simp only
   split at e
   ·rename_i hc
    rw [if_pos hc]
    split at e
    ·rename_i ha; rw [h.absorb ha]; exact e
    ·cases e
   ·cases e
  ·cases e
 ·cases e
theorem Le.eMake (h : Le s s') {T : TypeId} {lo co : Operand} {n : Nat} {r : Res × List Item} (e : Ab.eMake P s T lo co n = some r) : Ab.eMake P s' T lo co n = some r := by
 unfold Ab.eMake at e ⊢
 split at e
 ·rename_i h1 h2; rw [h1, h.int h2]; exact e
 ·cases e
theorem Le.eStoreArr (h : Le s s') {T : TypeId} {ad x : Operand} {q : List Orc} {r : Res × List Item × List Orc} (e : Ab.eStoreArr P s T ad x q = some r) : Ab.eStoreArr P s' T ad x q = some r := by
 unfold Ab.eStoreArr at e ⊢
 split at e
 ·rename_i h1 h2
  rw [h.ac h1, h.ev h2]; (try simp only)
  split at e
  ·rename_i own sz es l n e0 es9 q' h3 h4 h5 h6
   rw [h.arr h3, h4, h5, h6]; (try simp only)
   cases own with
   | true =>
    (try simp only at e ⊢)
    split at e
    ·rename_i ha; rw [h.absorbOwn ha]; exact e
    ·cases e
   | false => exact e
  ·cases e
 ·cases e
theorem Le.eStoreSub (h : Le s s') {T : TypeId} {ad x : Operand} {n : Nat} {q : List Orc} {r : Res × List Item × List Orc} (e : Ab.eStoreSub P s T ad x n q = some r) :
  Ab.eStoreBox P s' T ad x = none /\ Ab.eStoreArr P s' T ad x q = none /\ Ab.eStoreSub P s' T ad x n q = some r := by
 unfold Ab.eStoreSub at e
 split at e
 ·rename_i h1 h2
  split at e
  ·rename_i h3
   split at e
   ·rename_i h4 h5 h6 h7
    refine ⟨?_, ?_, ?_⟩
    ·unfold Ab.eStoreBox
     rw [h.ac h1]
    ·unfold Ab.eStoreArr
     rw [h.ac h1, h.ev h2]
     (try simp only)
     rw [h.arr h4, h6]
     simp only [Yqf, Yi7]
    ·unfold Ab.eStoreSub
     rw [h.ac h1, h.ev h2]
     (try simp only)
     rw [h3]
     (try simp only)
     rw [h.arr h4, h.arr h5, h6, h7]
     exact e
   ·cases e
  ·cases e
 ·cases e
theorem Le.eAppendSub (h : Le s s') {args : Array Operand} {tys : Array TypeId} {n : Nat} {q : List Orc} {r : Res × List Item × List Orc} (e : Ab.eAppendSub P s args tys n q = some r) :
  Ab.eAppend P s' args tys n q = none /\ Ab.eAppendSub P s' args tys n q = some r := by
 unfold Ab.eAppendSub at e
 split at e
 ·rename_i h1 h2
  split at e
  ·rename_i h3
   split at e
   ·rename_i h4
    split at e
    ·rename_i h5 h6
     split at e
     ·rename_i h7 h8 h9
      refine ⟨?_, ?_⟩
      ·unfold Ab.eAppend
       rw [h1, h2]
       (try simp only)
       rw [h5, h.ac h3, h.ac h6]
       (try simp only)
       rw [h7, h8]
       simp only [Ab.target]
       split <;> rfl
      ·unfold Ab.eAppendSub
       rw [h1, h2]
       (try simp only)
       rw [h.ac h3]
       (try simp only)
       rw [h.arr h4, h5, h.ac h6]
       (try simp only)
       rw [h7, h8, h.srcElems h9]
       exact e
     ·cases e
    ·cases e
   ·cases e
  ·cases e
 ·cases e
theorem Le.lendAC (h : Le s s') {c : AC} {r : Cell × List Nat} (e : Ab.lendAC s c = some r) : Ab.lendAC s' c = some r := by
 unfold Ab.lendAC at e ⊢
 split at e
 ·exact e
 ·exact e
 ·(try simp only)
  split at e
  ·rename_i hc; rw [if_pos (h.live hc)]; exact e
  ·cases e
 ·(try simp only)
  split at e
  ·rename_i ho; rw [h.arr ho]; exact e
  ·cases e
 ·cases e
theorem Le.lendACs (h : Le s s') : ∀ {l : List AC} {r : List AC × List Nat}, Ab.lendACs s l = some r -> Ab.lendACs s' l = some r
 | [], r, e => e
 | c :: l, r, e => by
  simp only [Ab.lendACs] at e ⊢
  split at e
  ·rename_i h1 h2; rw [h.lendAC h1, h.lendACs h2]; exact e
  ·cases e
theorem Le.passOne (h : Le s s') {c : AC} {r : Nat × Ob × (Nat -> AC)} (e : Ab.passOne s c = some r) : Ab.passOne s' c = some r := by
 unfold Ab.passOne at e ⊢
 split at e
 ·(try simp only)
  split at e
  ·rename_i ho; rw [h.arr ho]; exact e
  ·cases e
 ·(try simp only)
  split at e
  ·rename_i ho; rw [h.map ho]; exact e
  ·cases e
 ·(try simp only)
  split at e
  ·rename_i ho; rw [h.box ho]; exact e
  ·cases e
 ·cases e
theorem Le.passCells (h : Le s s') : ∀ {l : List AC} {emb : List (Option Nat)} {r : List (Option Nat) × List Ob × List AC × List Nat}, Ab.passCells s emb l = some r -> Ab.passCells s' emb l = some r
 | [], emb, r, e => e
 | c :: l, emb, r, e => by
  simp only [Ab.passCells] at e ⊢
  split at e
  ·rename_i hone
   rw [h.passOne hone]; (try simp only)
   split at e
   ·cases e
   ·rename_i hc
    rw [if_neg hc]
    split at e
    ·rename_i hp; rw [h.passCells hp]; exact e
    ·cases e
  ·split at e
   ·(try simp only [Ab.passOne])
    split at e
    ·rename_i hp; rw [h.passCells hp]; exact e
    ·cases e
   ·(try simp only [Ab.passOne])
    split at e
    ·rename_i hc
     rw [if_pos (h.live hc)]
     split at e
     ·rename_i hp; rw [h.passCells hp]; exact e
     ·cases e
    ·cases e
   ·(try simp only [Ab.passOne])
    split at e
    ·rename_i hp; rw [h.passCells hp]; exact e
    ·cases e
   ·cases e
theorem Le.passAgg (h : Le s s') : ∀ {ms : List (Option (Bool × Nat))} {l : List AC} {emb : List (Option Nat)} {r : List (Option Nat) × List Ob × List AC × List Nat}, Ab.passAgg s emb ms l = some r -> Ab.passAgg s' emb ms l = some r
 | [], [], emb, r, e => e
 | [], _ :: _, emb, r, e => by simp [Ab.passAgg] at e
 | _ :: _, [], emb, r, e => by simp [Ab.passAgg] at e
 | m :: ms, c :: l, emb, r, e => by
  simp only [Ab.passAgg] at e ⊢
  split at e
  ·(try simp only)
   split at e
   ·rename_i hl
    rw [h.lendAC hl]; (try simp only)
    split at e
    ·rename_i hp; rw [h.passAgg hp]; exact e
    ·cases e
   ·cases e
  ·(try simp only)
   split at e
   ·(try simp only)
    split at e
    ·rename_i ho
     rw [h.arr ho]; (try simp only)
     split at e
     ·rename_i hc
      rw [if_pos hc]
      split at e
      ·rename_i hp; rw [h.passAgg hp]; exact e
      ·cases e
     ·cases e
    ·cases e
   ·(try simp only)
    split at e
    ·rename_i hp; rw [h.passAgg hp]; exact e
    ·cases e
   ·cases e
theorem Le.add (h : Le s s') {p : Pass} {m : Mode} {x : SV} {r : Pass} (e : p.add s m x = some r) : p.add s' m x = some r := by
 unfold Pass.add at e ⊢
 split at e
 ·split at e
  ·(try simp only)
   split at e
   ·rename_i hl; rw [h.lendACs hl]; exact e
   ·cases e
  ·(try simp only)
   split at e
   ·rename_i hl; rw [h.lendACs hl]; exact e
   ·cases e
 ·split at e
  ·(try simp only)
   split at e
   ·rename_i ho; rw [h.arr ho]; exact e
   ·cases e
  ·exact e
  ·cases e
 ·split at e
  ·(try simp only)
   split at e
   ·rename_i ho
    rw [h.box ho]; (try simp only)
    split at e
    ·cases e
    ·rename_i hc
     rw [if_neg hc]
     split at e
     ·rename_i hp; rw [h.passCells hp]; exact e
     ·cases e
   ·cases e
  ·cases e
 ·split at e
  ·(try simp only)
   split at e
   ·rename_i ho; rw [h.map ho]; exact e
   ·cases e
  ·cases e
 ·split at e
  ·(try simp only)
   split at e
   ·rename_i hp; rw [h.passAgg hp]; exact e
   ·cases e
  ·cases e
theorem Le.passAll (h : Le s s') : ∀ {ms : List Mode} {xs : List AV} {p r : Pass}, Ab.passAll s p ms xs = some r -> Ab.passAll s' p ms xs = some r
 | [], [], p, r, e => e
 | m :: ms, .sv x :: xs, p, r, e => by
  simp only [Ab.passAll] at e ⊢
  split at e
  ·rename_i hp; rw [h.add hp]; exact h.passAll e
  ·cases e
 | [], _ :: _, p, r, e => by cases e
 | _ :: _, [], p, r, e => by cases e
 | _ :: _, .tup _ :: _, p, r, e => by cases e
theorem Le.evAll (h : Le s s') : ∀ {l : List Operand} {r : List AV}, Ab.evAll s l = some r -> Ab.evAll s' l = some r
 | [], r, e => e
 | x :: l, r, e => by
  simp only [Ab.evAll] at e ⊢
  split at e
  ·rename_i h1 h2; rw [h.ev h1, h.evAll h2]; exact e
  ·cases e
theorem Le.calleeOf (h : Le s s') {x : Operand} {f : FuncId} (e : Ab.calleeOf s x = some f) : Ab.calleeOf s' x = some f := by
 unfold Ab.calleeOf at e ⊢
 split at e
 ·rename_i hl; rw [h.lit hl]; exact e
 ·cases e
theorem Le.cloOf (h : Le s s') {x : Operand} {f : FuncId} {v : Value} (e : Ab.cloOf s x = some (f, v)) : Ab.cloOf s' x = some (f, v) /\ Ab.calleeOf s' x = none := by
 unfold Ab.cloOf at e
 split at e
 ·rename_i f' v' hc
  have hc' := h.ac hc
  refine ⟨by unfold Ab.cloOf; rw [hc']; exact e, ?_⟩
  unfold Ab.calleeOf
  have hl : s'.lit x = none := by unfold St.lit; rw [hc']
  rw [hl]
 ·cases e
theorem Le.eCall (h : Le s s') {f : FuncId} {args : Array Operand} {ex : List AV} {n : Nat} {q : List Orc} {r : Res × List Item × List Orc} (e : Ab.eCall P s f args ex n q = some r) : Ab.eCall P s' f args ex n q = some r := by
 unfold Ab.eCall at e ⊢
 split at e
 ·(try simp only)
  split at e
  ·rename_i hav
   rw [h.evAll hav]; (try simp only)
   split at e
   ·rename_i hp; rw [h.passAll hp]; exact e
   ·cases e
  ·cases e
 ·cases e
theorem Yhm {α β : Type} {x y : Option α} {f : α -> β} {r : β} (hxy : ∀ a, x = some a -> y = some a) (e : x.map f = some r) : y.map f = some r := by
 obtain ⟨a, ha, rfl⟩ := Option.map_eq_some_iff.1 e
 rw [hxy a ha]; rfl
theorem Le.keyV (h : Le s s') {x : Operand} {v : Value} (e : s.keyV x = some v) : s'.keyV x = some v := by
 unfold St.keyV at e ⊢
 split at e
 ·rename_i u hev
  rw [h.ev hev]; exact e
 ·rename_i l hev
  rw [h.ev hev]; exact e
 ·cases e
theorem Le.eLookup (h : Le s s') {T : TypeId} {m x : Operand} {ok : Bool} {n : Nat} {q : List Orc} {r : Res × List Item × List Orc} (e : Ab.eLookup P s T m x ok n q = some r) : Ab.eLookup P s' T m x ok n q = some r := by
 unfold Ab.eLookup at e ⊢
 split at e
 ·rename_i id hm
  rw [h.ac hm]
  (try simp only)
  split at e
  ·rename_i hob hkey hT
   rw [h.map hob, h.keyV hkey, hT]
   exact e
  ·cases e
 ·cases e
theorem Le.eMapUpdate (h : Le s s') {T : TypeId} {m x y : Operand} {q : List Orc} {r : Res × List Item × List Orc} (e : Ab.eMapUpdate P s T m x y q = some r) : Ab.eMapUpdate P s' T m x y q = some r := by
 unfold Ab.eMapUpdate at e ⊢
 split at e
 ·rename_i id f' q1 hm
  rw [h.ac hm]
  (try simp only)
  split at e
  ·rename_i hob hkey hT hy
   rw [h.map hob, h.keyV hkey, hT, h.ac hy]
   (try simp only)
   split at e
   ·rename_i hc
    rw [if_pos hc]
    split at e
    ·rename_i hab; rw [h.absorbOwn hab]; exact e
    ·cases e
   ·cases e
  ·cases e
 ·cases e
theorem Le.eMapDelete (h : Le s s') {args : Array Operand} {tys : Array TypeId} {q : List Orc} {r : Res × List Item × List Orc} (e : Ab.eMapDelete P s args tys q = some r) : Ab.eMapDelete P s' args tys q = some r := by
 unfold Ab.eMapDelete at e ⊢
 split at e
 ·(try simp only)
  split at e
  ·rename_i hm
   rw [h.ac hm]
   (try simp only)
   split at e
   ·rename_i hob hkey hT
    rw [h.map hob, h.keyV hkey, hT]
    exact e
   ·cases e
  ·cases e
 ·cases e
theorem Le.eMapNil (h : Le s s') {op : BinOp} {T : TypeId} {x y : Operand} {r : Res} (e : Ab.eMapNil P s op T x y = some r) : Ab.eMapNil P s' op T x y = some r /\ ∀ (z : TypeId) (o : Oper) (q : List Orc), o.op = .binOp op T x y z -> Ab.vop P s' o q = none := by
 have hv : ∀ (c : AC) (u : Value), s'.ac x = some c -> s'.lit y = some u -> u = .map none -> (∀ v, c = .val (.lit v) -> v = .map none) -> ∀ (z : TypeId) (o : Oper) (q : List Orc), o.op = .binOp op T x y z -> Ab.vop P s' o q = none := by
  intro c u hc hu he hcv z o q ho
  subst he
  unfold Ab.vop
  simp only [ho]
  have : s'.lit x = none ∨ s'.lit x = some (.map none) := by
   unfold St.lit
   rw [hc]
   cases c with
   | val c => cases c with
    | lit v => right; rw [hcv v rfl]
    | _ => left; rfl
   | _ => left; rfl
  rcases this with h1 | h1
  ·rw [h1]
  ·rw [h1, hu]; rfl
 unfold Ab.eMapNil at e ⊢
 split at e
 ·(try simp only)
  split at e
  ·rename_i hx hy
   refine ⟨?_, hv _ _ (h.ac hx) (h.lit hy) rfl (by simp)⟩
   rw [h.ac hx, h.lit hy]
   (try simp only)
   split at e
   ·rename_i hob
    rw [h.map hob]; exact e
   ·cases e
  ·rename_i hx hy
   refine ⟨?_, hv _ _ (h.ac hx) (h.lit hy) rfl (by simp)⟩
   rw [h.ac hx, h.lit hy]
   exact e
  ·cases e
 ·cases e
theorem Le.eMark (h : Le s s') {x : Operand} {r : Res} (e : Ab.eMark s x = some r) : Ab.eMark s' x = some r := by
 unfold Ab.eMark at e ⊢
 split at e
 ·rename_i id hc
  rw [h.ac hc]
  split at e
  ·rename_i hob
   (try simp only); rw [h.arr hob]; exact e
  ·cases e
 ·cases e
theorem Le.eLoadPull (h : Le s s') {T : TypeId} {x : Operand} {n : Nat} {q : List Orc} {r : Res × List Item × List Orc} (e : Ab.eLoadPull P s T x n q = some r) : Ab.eLoadPull P s' T x n q = some r := by
 unfold Ab.eLoadPull at e ⊢
 split at e
 ·rename_i h1 h2 h3
  rw [h.ac h1, h2, h3]
  (try simp only)
  split at e
  ·rename_i h4
   rw [h.arr h4]
   exact e
  ·cases e
 ·cases e
theorem Y138 {j i off n : Nat} {e : List Cell} {zs : List Nat} {q' : List Orc} {r : List AC × List Item × List Orc} (hr : Ab.readAt s (.eptr j i off) n (.pulls e zs :: q') = some r) : False := by
 unfold Ab.readAt at hr
 simp only at hr
 split at hr <;> cases hr
theorem Le.noPull (h : Le s s') {o : Oper} {T : TypeId} {x : Operand} (ho : o.op = .load T x) {n : Nat} {q : List Orc} {r : AV × List Item × List Orc} (e : Ab.vop P s o q = some r) : Ab.eLoadPull P s' T x n q = none := by
 unfold Ab.eLoadPull
 simp only [Ab.vop, ho] at e
 split at e
 ·rename_i c n1 ag h1 h2 h3
  rw [h.ac h1, h2, h3]
  split at e
  ·rename_i hr
   cases c with
   | eptr j i off =>
    cases ag with
    | false => rfl
    | true =>
     simp only
     split
     ·split
      ·exact (Y138 hr).elim
      ·rfl
     ·rfl
   | _ => cases ag <;> rfl
  ·cases e
 ·cases e
theorem Le.aop (h : Le s s') {o : Oper} {n : Nat} {q : List Orc} {r : Res × List Item × List Orc} (e : Ab.aop P s o n q = some r) : Ab.aop P s' o n q = some r := by
 unfold Ab.aop at e ⊢
 split at e
 ·exact e
 ·exact Yhm (fun _ ha => h.eBox ha) e
 ·exact Yhm (fun _ ha => h.eBuild ha) e
 ·split at e
  ·split at e
   ·exact Yhm (fun _ ha => h.eBuildSlice ha) e
   ·cases e
  ·exact Yhm (fun _ ha => h.eBuildSlice ha) e
 ·exact Yhm (fun _ ha => h.eMake ha) e
 ·rename_i T ad x ho
  (try simp only)
  split at e
  ·rename_i hs; rw [h.eStoreBox hs]; exact e
  ·split at e
   ·rename_i r1 hr
    have hs' : Ab.eStoreBox P s' T ad x = none := by
     unfold Ab.eStoreArr at hr
     split at hr
     ·rename_i h1 h2
      unfold Ab.eStoreBox
      rw [h.ac h1]
     ·cases hr
    rw [hs', h.eStoreArr hr]
    exact e
   ·obtain ⟨h1, h2, h3⟩ := h.eStoreSub e
    rw [h1, h2]
    exact h3
 ·(try simp only)
  split at e
  ·rename_i r1 hr
   rw [h.eAppend hr]; exact e
  ·obtain ⟨h1, h2⟩ := h.eAppendSub e
   rw [h1]; exact h2
 ·rename_i x args tys ho
  split at e
  ·rename_i f hf
   simp only [h.calleeOf hf]; exact h.eCall e
  ·split at e
   ·rename_i f v hf
    simp only [(h.cloOf hf).2, (h.cloOf hf).1]; exact h.eCall e
   ·cases e
 ·exact h.eMapDelete e
 ·exact h.eLookup e
 ·exact e
 ·exact h.eMapUpdate e
 ·exact h.eMapUpdate e
 ·rename_i op T x y z ho
  (try simp only)
  split at e
  ·rename_i hr; rw [h.vop hr]; exact e
  ·cases hr : Ab.eMapNil P s op T x y with
   | none => simp [hr] at e
   | some r' =>
    obtain ⟨h1, h2⟩ := h.eMapNil hr
    rw [hr] at e
    rw [h2 z o q ho, h1]; exact e
 ·(try simp only)
  split at e
  ·exact Yhm (fun _ ha => h.eMark ha) e
  ·exact Yhm (fun _ ha => h.vop ha) e
 ·rename_i T x ho
  (try simp only)
  split at e
  ·rename_i r1 hr
   rw [h.eLoadPull hr]; exact e
  ·rename_i hr
   cases hv : Ab.vop P s o q with
   | none => simp [hv] at e
   | some r' =>
    rw [h.noPull ho hv, h.vop hv]
    rw [hv] at e; exact e
 ·exact Yhm (fun _ ha => h.vop ha) e
theorem Le.bit (h : Le s s') {t : Nat} {x : Option Bool} (e : s.bit t = some x) : s'.bit t = some x := by
 unfold St.bit at e ⊢
 rcases h.reg t with h1 | h1
 ·rw [h1] at e; simp at e
 ·rw [h1]; exact e
theorem Le.wanted (h : Le s s') {ops : Array Oper} {o : Oper} {b : Bool} (e : Yj0 ops s o = some b) : Yj0 ops s' o = some b := by
 unfold Yj0 at e ⊢
 split at e
 ·exact e
 ·(try simp only)
  split at e
  ·(try simp only)
   split at e
   ·rename_i hb; rw [h.bit hb]; exact e
   ·rename_i hb; rw [h.bit hb]; exact e
   ·cases e
  ·cases e
end
end Go.Proofs.YtclpofblehlojaaGreat.Ab
end
section
namespace Go.Proofs.YtclpofblehlojaaGreat.Ab
open Go
structure Eff where
 i : Nat
 dst : Option Nat
 val : AV
 n : Nat
 k : Nat
 r : Res
 it : List Item
def St.eff (s : St) (d : Eff) : St := (s.app d.n d.r).put d.dst d.val
def Yz0 : Nat -> List Ob -> List (Nat × Ob)
 | _, [] => []
 | n, o :: l => (n, o) :: Yz0 (n + 1) l
def Eff.obs (d : Eff) : List (Nat × Ob) := d.r.upd ++ Yz0 d.n d.r.new
def AC.touch (ids : List Nat) (c : AC) : Bool := match c.src with | some id => ids.elem id | none => false
def AV.touch (ids : List Nat) (x : AV) : Bool := match ids with | [] => false | _ => x.acs.any (AC.touch ids)
def Ob.touch (ids : List Nat) (o : Ob) : Bool := match ids with | [] => false | _ => o.acs.any (AC.touch ids)
def Eff.apart (d e : Eff) : Bool :=
 (match d.dst, e.dst with | some x, some y => !(Nat.beq x y) | _, _ => true) &&
 !(d.val.touch e.r.inv) && !(e.val.touch d.r.inv) &&
 d.obs.all (fun p => !(p.2.touch e.r.inv) && e.obs.all fun p' => !(Nat.beq p.1 p'.1)) &&
 e.obs.all (fun p => !(p.2.touch d.r.inv))
theorem Yy6 : ∀ (l : List Ob) (n : Nat) (s : St), s.setObs n l = s.updObs (Yz0 n l)
 | [], _, _ => rfl
 | o :: l, n, s => by rw [St.setObs, Yz0, St.updObs]; exact Yy6 l (n + 1) _
theorem Yjz (s : St) (d : Eff) : s.eff d = ((s.inval d.r.inv).updObs d.obs).put d.dst d.val := by
 rw [St.eff, St.app, Yy6, Eff.obs, Yjb]
theorem Yrb (c : AC) : Yey [] c = c := by unfold Yey; split <;> rfl
theorem Yxs (x : SV) : Yf3 [] x = x := by
 cases x with
 | one c => simp [Yf3, Yrb]
 | agg cs => simp only [Yf3]; congr 1; exact (List.map_congr_left fun c _ => Yrb c).trans (List.map_id' cs)
theorem Yq9 (x : AV) : Yee [] x = x := by
 cases x with
 | sv x => simp [Yee, Yxs]
 | tup l => simp only [Yee]; congr 1; exact (List.map_congr_left fun c _ => Yxs c).trans (List.map_id' l)
theorem Yrl (o : Ob) : Ydt [] o = o := by
 cases o with
 | box cs => simp only [Ydt]; congr 1; exact (List.map_congr_left fun c _ => Yrb c).trans (List.map_id' cs)
 | _ => rfl
theorem Yfk (ids : List Nat) (s : St) : s.inval ids = { s with regs := s.regs.map (Yee ids), objs := s.objs.map (Ydt ids) } := by
 cases ids with
 | nil =>
  show s = _
  have h1 : s.regs.map (Yee []) = s.regs := (List.map_congr_left fun c _ => Yq9 c).trans (List.map_id' _)
  have h2 : s.objs.map (Ydt []) = s.objs := (List.map_congr_left fun c _ => Yrl c).trans (List.map_id' _)
  rw [h1, h2]
 | cons => rfl
theorem Y11t (ids : List Nat) (c : AC) : Yey ids c = if c.touch ids = true then .top else c := by
 unfold Yey AC.touch
 cases c.src with
 | none => simp
 | some id => rfl
theorem Ypv (a b : List Nat) (c : AC) : Yey a (Yey b c) = Yey b (Yey a c) := by
 have ht : ∀ l, AC.top.touch l = false := fun _ => rfl
 by_cases ha : c.touch a = true <;> by_cases hb : c.touch b = true <;> simp [Y11t, ha, hb, ht]
theorem Yw3 (a b : List Nat) (x : SV) : Yf3 a (Yf3 b x) = Yf3 b (Yf3 a x) := by
 cases x with
 | one c => simp [Yf3, Ypv a b]
 | agg cs => simp only [Yf3, List.map_map]; congr 1; exact List.map_congr_left fun c _ => Ypv a b c
theorem Yur (a b : List Nat) (x : AV) : Yee a (Yee b x) = Yee b (Yee a x) := by
 cases x with
 | sv x => simp [Yee, Yw3 a b]
 | tup l => simp only [Yee, List.map_map]; congr 1; exact List.map_congr_left fun c _ => Yw3 a b c
theorem Yvf (a b : List Nat) (x : Ob) : Ydt a (Ydt b x) = Ydt b (Ydt a x) := by
 cases x with
 | box cs => simp only [Ydt, List.map_map]; congr 1; exact List.map_congr_left fun c _ => Ypv a b c
 | _ => rfl
theorem Ypa {ids : List Nat} {c : AC} (h : c.touch ids = false) : Yey ids c = c := by
 unfold AC.touch at h; unfold Yey
 cases e : c.src with
 | none => rfl
 | some id => rw [e] at h; simp only at h ⊢; rw [if_neg (by rw [h]; simp)]
theorem Yvp {ids : List Nat} {x : SV} (h : x.acs.any (AC.touch ids) = false) : Yf3 ids x = x := by
 cases x with
 | one c => simp only [SV.acs, List.any_cons, List.any_nil, Bool.or_false] at h; simp [Yf3, Ypa h]
 | agg cs =>
  simp only [SV.acs] at h; simp only [Yf3]; congr 1
  exact (List.map_congr_left fun c hc => Ypa (by simpa using (List.any_eq_false.1 h) c hc)).trans (List.map_id' cs)
theorem Ypj {ids : List Nat} {x : AV} (h : x.touch ids = false) : Yee ids x = x := by
 cases ids with
 | nil => exact Yq9 x
 | cons i ids =>
  simp only [AV.touch] at h
  cases x with
  | sv x => simp only [AV.acs] at h; simp [Yee, Yvp h]
  | tup l =>
   simp only [AV.acs] at h; simp only [Yee]; congr 1
   refine (List.map_congr_left fun c hc => Yvp ?_).trans (List.map_id' l)
   rw [List.any_eq_false] at h ⊢
   exact fun a ha => h a (List.mem_flatMap.2 ⟨c, hc, ha⟩)
theorem Ypl {ids : List Nat} {x : Ob} (h : x.touch ids = false) : Ydt ids x = x := by
 cases ids with
 | nil => exact Yrl x
 | cons i ids =>
  simp only [Ob.touch] at h
  cases x with
  | box cs =>
   simp only [Ob.acs] at h; simp only [Ydt]; congr 1
   exact (List.map_congr_left fun c hc => Ypa (by simpa using (List.any_eq_false.1 h) c hc)).trans (List.map_id' cs)
  | _ => rfl
theorem Y17j (a b : List Nat) (s : St) : (s.inval a).inval b = (s.inval b).inval a := by
 rw [Yfk, Yfk, Yfk, Yfk]
 simp only [List.map_map]
 congr 1
 ·exact List.map_congr_left fun c _ => Yur b a c
 ·exact List.map_congr_left fun c _ => Yvf b a c
theorem Yyn (ids : List Nat) (s : St) (dst : Option Nat) (v : AV) (h : v.touch ids = false) : (s.put dst v).inval ids = (s.inval ids).put dst v := by
 rw [Yfk, Yfk]
 cases dst with
 | none => rfl
 | some d => simp only [St.put, List.map_set, Ypj h]
theorem Y13s (ids : List Nat) (s : St) (n : Nat) (o : Ob) (h : o.touch ids = false) : (s.setOb n o).inval ids = (s.inval ids).setOb n o := by
 rw [Yfk, Yfk]
 simp only [St.setOb, List.map_set, Ypl h]
theorem Yn9 (ids : List Nat) : ∀ (l : List (Nat × Ob)) (s : St), (∀ p ∈ l, p.2.touch ids = false) -> (s.updObs l).inval ids = (s.inval ids).updObs l
 | [], s, _ => rfl
 | (n, o) :: l, s, h => by
  rw [St.updObs, St.updObs, Yn9 ids l _ fun p hp => h p (List.mem_cons_of_mem _ hp), Y13s ids s n o (h (n, o) List.mem_cons_self)]
theorem You : ∀ (l : List (Nat × Ob)) (s : St) (dst : Option Nat) (v : AV), (s.put dst v).updObs l = (s.updObs l).put dst v
 | [], s, dst, v => rfl
 | (n, o) :: l, s, dst, v => by
  rw [St.updObs, St.updObs, <- You l]
  cases dst <;> rfl
theorem Y16a (s : St) {i j : Nat} (h : i ≠ j) (o o' : Ob) : (s.setOb i o).setOb j o' = (s.setOb j o').setOb i o := by
 simp only [St.setOb, List.set_comm _ _ h]
theorem Yqh : ∀ (l : List (Nat × Ob)) (s : St) (i : Nat) (o : Ob), (∀ p ∈ l, p.1 ≠ i) -> (s.setOb i o).updObs l = (s.updObs l).setOb i o
 | [], s, i, o, _ => rfl
 | (n, x) :: l, s, i, o, h => by
  rw [St.updObs, St.updObs, Y16a s (Ne.symm (h (n, x) List.mem_cons_self)), Yqh l _ i o fun p hp => h p (List.mem_cons_of_mem _ hp)]
theorem Yso : ∀ (l m : List (Nat × Ob)) (s : St), (∀ p ∈ l, ∀ p' ∈ m, p.1 ≠ p'.1) -> (s.updObs l).updObs m = (s.updObs m).updObs l
 | [], m, s, _ => rfl
 | (n, o) :: l, m, s, h => by
  rw [St.updObs, St.updObs, Yso l m _ fun p hp => h p (List.mem_cons_of_mem _ hp), Yqh m s n o fun p hp => Ne.symm (h (n, o) List.mem_cons_self p hp)]
theorem Y1av (s : St) {x y : Option Nat} (v u : AV) (h : (match x, y with | some x, some y => !(Nat.beq x y) | _, _ => true) = true) : (s.put x v).put y u = (s.put y u).put x v := by
 cases x with
 | none => rfl
 | some x =>
  cases y with
  | none => rfl
  | some y =>
   have hne : x ≠ y := by
    rintro rfl
    simp at h
   simp only [St.put, List.set_comm _ _ hne]
theorem Y1bv (s : St) {d e : Eff} (h : d.apart e = true) : (s.eff d).eff e = (s.eff e).eff d := by
 simp only [Eff.apart, Bool.and_eq_true, Bool.not_eq_true', List.all_eq_true] at h
 obtain ⟨⟨⟨⟨h1, h2⟩, h3⟩, h4⟩, h5⟩ := h
 have hne : ∀ p ∈ d.obs, ∀ p' ∈ e.obs, p.1 ≠ p'.1 := fun p hp p' hp' => Nat.ne_of_beq_eq_false ((h4 p hp).2 p' hp')
 rw [Yjz, Yjz, Yjz, Yjz]
 rw [Yyn _ _ _ _ h2, Yyn _ _ _ _ h3, Yn9 _ _ _ fun p hp => (h4 p hp).1, Yn9 _ _ _ fun p hp => h5 p hp]
 rw [You, You, Yso _ _ _ hne, Y1av _ _ _ h1, Y17j]
def Yds (ops : Array Oper) (i : Nat) : List Nat := match ops[i]? with
 | some o => (o.after.toList.filter fun e => Region.binds .any e).map (·.on)
 | none => []
def Ylj (ms : List Nat) : List Nat -> Nat
 | [] => 0
 | p :: ps => (Ylj ms ps ||| 1 <<< p) ||| ms.getD p 0
def Yie (ops : Array Oper) : Nat -> List Nat
 | 0 => []
 | n + 1 => match Yie ops n with | ms => ms ++ [Ylj ms (Yds ops n)]
theorem Yv7 {ms : List Nat} : ∀ {ps : List Nat} {x : Nat}, (Ylj ms ps).testBit x = true -> ∃ p ∈ ps, x = p ∨ (ms.getD p 0).testBit x = true
 | [], x, h => by simp [Ylj] at h
 | p :: ps, x, h => by
  simp only [Ylj, Nat.testBit_or, Bool.or_eq_true, Nat.one_shiftLeft, Nat.testBit_two_pow, decide_eq_true_eq] at h
  rcases h with (h | h) | h
  ·obtain ⟨p', h1, h2⟩ := Yv7 h
   exact ⟨p', List.mem_cons_of_mem _ h1, h2⟩
  ·exact ⟨p, List.mem_cons_self, .inl h.symm⟩
  ·exact ⟨p, List.mem_cons_self, .inr h⟩
theorem Ymr (ops : Array Oper) : ∀ n, (Yie ops n).length = n
 | 0 => rfl
 | n + 1 => by simp [Yie, Ymr ops n]
def mk (ops : Array Oper) (i : Nat) : Nat := Ylj (Yie ops i) (Yds ops i)
theorem Yjo (ops : Array Oper) : ∀ (n i : Nat), i < n -> (Yie ops n).getD i 0 = mk ops i
 | 0, i, h => by omega
 | n + 1, i, h => by
  have hl := Ymr ops n
  simp only [Yie, List.getD_eq_getElem?_getD, List.getElem?_append, hl]
  by_cases hi : i < n
  ·rw [if_pos hi]
   have := Yjo ops n i hi
   simpa [List.getD_eq_getElem?_getD] using this
  ·have : i = n := by omega
   subst this
   rw [if_neg hi]; simp [mk]
theorem Y131 {ops : Array Oper} {i x : Nat} (h : (mk ops i).testBit x = true) : ∃ p ∈ Yds ops i, x = p ∨ (p < i /\ (mk ops p).testBit x = true) := by
 obtain ⟨p, h1, h2⟩ := Yv7 h
 refine ⟨p, h1, h2.imp id fun h2 => ?_⟩
 by_cases hp : p < i
 ·exact ⟨hp, by rwa [Yjo ops i p hp] at h2⟩
 ·rw [List.getD_eq_getElem?_getD, List.getElem?_eq_none (by rw [Ymr]; omega)] at h2
  simp at h2
theorem Yyz {ops : Array Oper} (hp : ∀ i, ∀ p ∈ Yds ops i, p < i) : ∀ (n i x : Nat), i < n -> (mk ops i).testBit x = true -> x < i
 | 0, i, x, hi, _ => by omega
 | n + 1, i, x, hi, h => by
  obtain ⟨p, h1, h2⟩ := Y131 h
  have := hp i p h1
  rcases h2 with rfl | ⟨h2, h3⟩
  ·exact this
  ·have := Yyz hp n p x (by omega) h3
   omega
theorem Yni {ops : Array Oper} {L : Nat -> Prop} (hL : ∀ j, L j -> ∀ p ∈ Yds ops j, L p) : ∀ (n i x : Nat), i < n -> (∀ p ∈ Yds ops i, L p) -> (mk ops i).testBit x = true -> L x
 | 0, i, x, hi, _, _ => by omega
 | n + 1, i, x, hi, hpre, h => by
  obtain ⟨p, h1, h2⟩ := Y131 h
  rcases h2 with rfl | ⟨h2, h3⟩
  ·exact hpre _ h1
  ·exact Yni hL n p x (by omega) (hL p (hpre p h1)) h3
def unk : AV := .sv (.agg [])
def Ykp (ids : List Nat) : Nat -> List Ob -> List Ob
 | _, [] => []
 | n, o :: l => (match ids.elem n || o.touch ids with | true => .dead | false => o) :: Ykp ids (n + 1) l
def Yof (ids : List Nat) (x : AV) : AV := match x.touch ids with | true => unk | false => x
def St.blot (s : St) (dst : Option Nat) (ids : List Nat) : St := match ids with
 | [] => s.put dst unk
 | _ :: _ => { s with regs := s.regs.map (Yof ids), objs := Ykp ids 0 s.objs }.put dst unk
def Ygw (s : St) : List (Option Nat × List Nat) -> St
 | [] => s
 | (d, ids) :: l => Ygw (s.blot d ids) l
def Ymt (ms : List Nat) (i j : Nat) : Bool := !(Nat.beq i j) && !((ms.getD i 0).testBit j) && !((ms.getD j 0).testBit i)
def Yhx (ms : List Nat) (bls : List (Option Nat × List Nat)) (i : Nat) : List Nat -> List (Option Nat × List Nat)
 | [] => []
 | j :: l => match Ymt ms i j with
  | true => bls.getD j (none, []) :: Yhx ms bls i l
  | false => Yhx ms bls i l
def Ye8 (f : Nat -> Bool) (s : St) : List Eff -> St
 | [] => s
 | d :: l => match f d.i with
  | true => Ye8 f (s.eff d) l
  | false => Ye8 f s l
def mkS (n : Nat) (ms : List Nat) (bls : List (Option Nat × List Nat)) (s0 : St) (ds : List Eff) (i : Nat) : St :=
 Ygw (Ye8 (fun j => (ms.getD i 0).testBit j) s0 ds) (Yhx ms bls i (List.range n))
def Yt4 : List Item -> Prop -> Prop
 | [], K => K
 | .asm _ :: r, K => Yt4 r K
 | .obl p :: r, K => p /\ Yt4 r K
def Y12c : List Item -> Prop -> Prop
 | [], K => K
 | .asm p :: r, K => (p -> Y12c r K)
 | .obl _ :: r, K => Y12c r K
def Yw6 (src : Bool) (v : AV) (q : List Orc) (k : AV -> List Orc -> Prop) : Prop :=
 match src, v with
 | true, .sv (.one (.val (.lit (.bool b)))) => match q with
  | .bool d :: q => b = d /\ k (Ynu d) q
  | .br l r :: _ => (b = true -> k (Ynu true) l) /\ (b = false -> k (Ynu false) r)
  | _ => StuckB b
 | _, v => k v q
def Yng (f : Nat -> Bool) : St -> List Eff -> (St -> Prop) -> Prop
 | s, [], k => k s
 | s, d :: l, k => match f d.i with
  | true => fSt (s.eff d) fun s => Yng f s l k
  | false => Yng f s l k
theorem Ymy (f : Nat -> Bool) : ∀ (l : List Eff) (s : St) (k : St -> Prop), Yng f s l k = k (Ye8 f s l)
 | [], s, k => rfl
 | d :: l, s, k => by
  rw [Yng, Ye8]
  cases f d.i with
  | true => show fSt (s.eff d) (fun s => Yng f s l k) = k (Ye8 f (s.eff d) l); rw [Ymi, Ymy f l]
  | false => exact Ymy f l s k
def Y1cl (n : Nat) (ms : List Nat) (bls : List (Option Nat × List Nat)) (s0 : St) (ds : List Eff) (i : Nat) (k : St -> Prop) : Prop :=
 Yng (fun j => (ms.getD i 0).testBit j) s0 ds fun s => fSt (Ygw s (Yhx ms bls i (List.range n))) k
theorem Y1fr (n : Nat) (ms : List Nat) (bls : List (Option Nat × List Nat)) (s0 : St) (ds : List Eff) (i : Nat) (k : St -> Prop) : Y1cl n ms bls s0 ds i k = k (mkS n ms bls s0 ds i) := by
 unfold Y1cl mkS; rw [Ymy, Ymi]
def Yta (P : Program) (ops : Array Oper) (ms : List Nat) (bls : List (Option Nat × List Nat)) (s0 : St) : List Nat -> Nat -> List Eff -> List Item -> List Orc -> (List Eff -> List Item -> List Orc -> Prop) -> Prop
 | [], n, ds, its, q, k => k ds its q
 | i :: rest, n, ds, its, q, k => match ops[i]? with
  | none => False
  | some o => Y1cl ops.size ms bls s0 ds i fun s => match Yj0 ops s o with
   | none => StuckGuard s o
   | some false => Ygt (n + Yf0 o) fun n' => Yfs fId (ds ++ [⟨i, o.dst, .tup [], n, Yf0 o, {}, []⟩]) fun ds => Yta P ops ms bls s0 rest n' ds its q k
   | some true => match aop P s o n q with
    | none => StuckOp s o n
    | some (r, it, q') => Yt4 it (Y1c9 r fun r => Yw6 (Y1ed ops i) r.val q' fun v q'' => Ygt (n + Yf0 o) fun n' => Yfs fId (its ++ it) fun its => Yfs fId (ds ++ [⟨i, o.dst, v, n, Yf0 o, r, it⟩]) fun ds => Yta P ops ms bls s0 rest n' ds its q'' k)
def Yrt (ops : Array Oper) (tids : List (Nat × List Nat)) : List Nat -> Nat -> List (Option Nat × List Nat)
 | [], _ => []
 | i :: l, n => match ops[i]? with
  | some o => (o.dst, (match tids.lookup i with | some t => t | none => []) ++ List.range' n (Yf0 o)) :: Yrt ops tids l (n + Yf0 o)
  | none => (none, []) :: Yrt ops tids l n
def Yp8 (ops : Array Oper) : List Nat -> Nat
 | [] => 0
 | i :: l => (match ops[i]? with | some o => Yf0 o | none => 0) + Yp8 ops l
def Y1er : Option Nat -> Option Nat -> Bool
 | none, none => true
 | some x, some y => Nat.beq x y
 | _, _ => false
def Yug (ops : Array Oper) (ms : List Nat) (bls : List (Option Nat × List Nat)) (base len : Nat) (ds : List Eff) : Bool :=
 (ds.map (·.i) == List.range ops.size) &&
 (List.range ops.size).all (fun i => (Yds ops i).all fun p => Nat.blt p i) &&
 ds.all (fun d => Y1er (bls.getD d.i (none, [])).1 d.dst && d.obs.all (fun p => (bls.getD d.i (none, [])).2.elem p.1) && d.r.inv.all (fun x => (bls.getD d.i (none, [])).2.elem x) &&
  Nat.ble base d.n && Nat.ble (d.n + d.k) len &&
  ds.all fun e => (Nat.beq d.i e.i || (ms.getD e.i 0).testBit d.i || e.obs.all fun p => Nat.blt p.1 d.n || Nat.ble (d.n + d.k) p.1) && (!(Ymt ms d.i e.i) || d.apart e))
theorem Yvr {J ids : List Nat} {x : AV} (h : ∀ i ∈ J, i ∈ ids) (k : x.touch ids = false) : x.touch J = false := by
 cases J with
 | nil => rfl
 | cons j J =>
  have hn : ids ≠ [] := fun e => by have := h j List.mem_cons_self; rw [e] at this; cases this
  unfold AV.touch at k ⊢
  cases ids with
  | nil => exact absurd rfl hn
  | cons i ids =>
   simp only at k ⊢
   rw [List.any_eq_false] at k ⊢
   intro c hc hk
   refine k c hc ?_
   unfold AC.touch at hk ⊢
   split at hk
   ·rename_i id e
    have : id ∈ j :: J := by simpa using hk
    simpa using h id this
   ·cases hk
theorem Yyi {J : List Nat} {x : AV} (h : ∀ i ∈ J, x.touch [i] = false) : x.touch J = false := by
 cases J with
 | nil => rfl
 | cons j J =>
  unfold AV.touch
  simp only
  rw [List.any_eq_false]
  intro c hc hk
  unfold AC.touch at hk
  split at hk
  ·rename_i id e
   have hm : id ∈ j :: J := by simpa using hk
   have := h id hm
   unfold AV.touch at this
   simp only at this
   rw [List.any_eq_false] at this
   refine this c hc ?_
   unfold AC.touch; rw [e]; simp
  ·cases hk
theorem Ysl {J ids : List Nat} {x : Ob} (h : ∀ i ∈ J, i ∈ ids) (k : x.touch ids = false) : x.touch J = false := by
 cases J with
 | nil => rfl
 | cons j J =>
  have hn : ids ≠ [] := fun e => by have := h j List.mem_cons_self; rw [e] at this; cases this
  unfold Ob.touch at k ⊢
  cases ids with
  | nil => exact absurd rfl hn
  | cons i ids =>
   simp only at k ⊢
   rw [List.any_eq_false] at k ⊢
   intro c hc hk
   refine k c hc ?_
   unfold AC.touch at hk ⊢
   split at hk
   ·rename_i id e
    have : id ∈ j :: J := by simpa using hk
    simpa using h id this
   ·cases hk
theorem Yuq {J : List Nat} {x : Ob} (h : ∀ i ∈ J, x.touch [i] = false) : x.touch J = false := by
 cases J with
 | nil => rfl
 | cons j J =>
  unfold Ob.touch
  simp only
  rw [List.any_eq_false]
  intro c hc hk
  unfold AC.touch at hk
  split at hk
  ·rename_i id e
   have hm : id ∈ j :: J := by simpa using hk
   have := h id hm
   unfold Ob.touch at this
   simp only at this
   rw [List.any_eq_false] at this
   refine this c hc ?_
   unfold AC.touch; rw [e]; simp
  ·cases hk
theorem Yn4 (a b : List Nat) (c : AC) : Yey a (Yey b c) = Yey (b ++ a) c := by
 have ht : ∀ l, AC.top.touch l = false := fun _ => rfl
 have happ : c.touch (b ++ a) = (c.touch b || c.touch a) := by
  unfold AC.touch
  cases c.src with
  | none => rfl
  | some id => simp only [List.elem_eq_contains]; rw [Bool.eq_iff_iff]; simp
 by_cases ha : c.touch a = true <;> by_cases hb : c.touch b = true <;> simp [Y11t, happ, ha, hb, ht]
theorem Yqj (a b : List Nat) (x : SV) : Yf3 a (Yf3 b x) = Yf3 (b ++ a) x := by
 cases x with
 | one c => simp [Yf3, Yn4 a b]
 | agg cs => simp only [Yf3, List.map_map]; congr 1; exact List.map_congr_left fun c _ => Yn4 a b c
theorem Y10d (a b : List Nat) (x : AV) : Yee a (Yee b x) = Yee (b ++ a) x := by
 cases x with
 | sv x => simp [Yee, Yqj a b]
 | tup l => simp only [Yee, List.map_map]; congr 1; exact List.map_congr_left fun c _ => Yqj a b c
theorem Y10p (a b : List Nat) (x : Ob) : Ydt a (Ydt b x) = Ydt (b ++ a) x := by
 cases x with
 | box cs => simp only [Ydt, List.map_map]; congr 1; exact List.map_congr_left fun c _ => Yn4 a b c
 | _ => rfl
theorem Yub (s : St) (d : Eff) : (s.eff d).regs.length = s.regs.length := by
 rw [Yjz, Yfk]
 cases d.dst with
 | none => simp [St.put, Yez]
 | some t => simp [St.put, Yez]
theorem Y1c6 (s : St) (dst : Option Nat) (v : AV) : (s.put dst v).objs = s.objs := by cases dst <;> rfl
theorem Ypf (s : St) (d : Eff) : (s.eff d).objs.length = s.objs.length := by
 rw [Yjz, Yfk, Y1c6, Yfi]; simp
theorem Y14d (s : St) (dst : Option Nat) (v : AV) (t : Nat) : (s.put dst v).reg t = if dst = some t /\ t < s.regs.length then v else s.reg t := by
 cases dst with
 | none => simp [St.put]
 | some d =>
  simp only [St.put, St.reg, List.getD_eq_getElem?_getD, List.getElem?_set, Option.some.injEq]
  by_cases hd : d = t
  ·subst hd
   by_cases hl : d < s.regs.length
   ·simp [hl]
   ·simp [hl]
  ·simp [hd]
theorem Y150 (s : St) (f : AV -> AV) (hf : f Yk6 = Yk6) (t : Nat) : ({ s with regs := s.regs.map f } : St).reg t = f (s.reg t) := by
 simp only [St.reg, List.getD_eq_getElem?_getD, List.getElem?_map]
 cases s.regs[t]? with
 | none => exact hf.symm
 | some x => rfl
theorem Y19g (s : St) (ids : List Nat) (t : Nat) : (s.inval ids).reg t = Yee ids (s.reg t) := by
 rw [Yfk]
 exact Y150 s (Yee ids) rfl t
theorem Y114 (s : St) (ids : List Nat) (i : Nat) : (s.inval ids).obj i = Ydt ids (s.obj i) := by
 rw [Yfk]
 simp only [St.obj, List.getD_eq_getElem?_getD, List.getElem?_map]
 cases s.objs[i]? <;> rfl
theorem Ywk (s : St) (d : Eff) (t : Nat) : (s.eff d).reg t = if d.dst = some t /\ t < s.regs.length then d.val else Yee d.r.inv (s.reg t) := by
 rw [Yjz, Y14d]
 have h1 : ((s.inval d.r.inv).updObs d.obs).regs.length = s.regs.length := by rw [Yez, Yfk]; simp
 have h2 : ((s.inval d.r.inv).updObs d.obs).reg t = Yee d.r.inv (s.reg t) := by
  rw [<- Y19g]; simp only [St.reg, Yez]
 rw [h1, h2]
theorem Yss : ∀ (l : List (Nat × Ob)) (s s' : St) (x : Nat), s.objs.length = s'.objs.length ->
  (∃ o, (x, o) ∈ l /\ (s.updObs l).obj x = o /\ (s'.updObs l).obj x = o) ∨ ((s.updObs l).obj x = s.obj x /\ (s'.updObs l).obj x = s'.obj x)
 | [], s, s', x, _ => .inr ⟨rfl, rfl⟩
 | (n, o) :: l, s, s', x, hl => by
  rw [St.updObs, St.updObs]
  have hl' : (s.setOb n o).objs.length = (s'.setOb n o).objs.length := by simp [St.setOb, hl]
  rcases Yss l (s.setOb n o) (s'.setOb n o) x hl' with ⟨o1, h1, h2, h3⟩ | ⟨h1, h2⟩
  ·exact .inl ⟨o1, List.mem_cons_of_mem _ h1, h2, h3⟩
  ·by_cases hx : x = n
   ·subst hx
    by_cases hlt : x < s.objs.length
    ·left
     refine ⟨o, List.mem_cons_self, ?_, ?_⟩
     ·rw [h1, Ydc hlt, if_pos rfl]
     ·rw [h2, Ydc (by omega), if_pos rfl]
    ·right
     have e1 : s.setOb x o = s := by simp only [St.setOb]; rw [List.set_eq_of_length_le (by omega)]
     have e2 : s'.setOb x o = s' := by simp only [St.setOb]; rw [List.set_eq_of_length_le (by omega)]
     rw [e1] at h1 ⊢; rw [e2] at h2 ⊢
     exact ⟨h1, h2⟩
   ·right
    have e : ∀ (s : St), (s.setOb n o).obj x = s.obj x := fun s => by
     simp only [St.setOb, St.obj, List.getD_eq_getElem?_getD, List.getElem?_set, if_neg (Ne.symm hx)]
    exact ⟨h1.trans (e s), h2.trans (e s')⟩
theorem Yu3 (s s' : St) (d : Eff) (x : Nat) (hl : s.objs.length = s'.objs.length) :
  (∃ o, (x, o) ∈ d.obs /\ (s.eff d).obj x = o /\ (s'.eff d).obj x = o) ∨ ((s.eff d).obj x = Ydt d.r.inv (s.obj x) /\ (s'.eff d).obj x = Ydt d.r.inv (s'.obj x)) := by
 rw [Yjz, Yjz, St.obj_put, St.obj_put, <- Y114, <- Y114]
 exact Yss d.obs _ _ x (by rw [Yfk, Yfk]; simpa using hl)
structure Two (Dt Ox : Nat -> Prop) (J : List Nat) (a t : St) : Prop where
 rlen : a.regs.length = t.regs.length
 olen : a.objs.length = t.objs.length
 reg : ∀ x, t.reg x = Yee J (a.reg x) ∨ Dt x
 obj : ∀ x, t.obj x = Ydt J (a.obj x) ∨ Ox x
def Yyy (u d : Eff) : Prop := ∀ i ∈ u.r.inv, d.val.touch [i] = false /\ ∀ p ∈ d.obs, p.2.touch [i] = false
theorem Yos {fA fT : Nat -> Bool} (hsub : ∀ j, fA j = true -> fT j = true) {Dt Ox Jx : Nat -> Prop} :
  ∀ (ds : List Eff) (a t : St) (J : List Nat), (∀ i ∈ J, Jx i) -> Two Dt Ox J a t ->
   (∀ d ∈ ds, fA d.i = true -> ∀ i ∈ J, d.val.touch [i] = false /\ ∀ p ∈ d.obs, p.2.touch [i] = false) ->
   ds.Pairwise (fun u d => fT u.i = true -> fA u.i = false -> fA d.i = true -> Yyy u d) ->
   (∀ d ∈ ds, fT d.i = true -> fA d.i = false -> (∀ x, d.dst = some x -> Dt x) /\ (∀ p ∈ d.obs, Ox p.1) /\ ∀ i ∈ d.r.inv, Jx i) ->
   ∃ J', (∀ i ∈ J', Jx i) /\ Two Dt Ox J' (Ye8 fA a ds) (Ye8 fT t ds)
 | [], a, t, J, hJ, h, _, _, _ => ⟨J, hJ, h⟩
 | d :: ds, a, t, J, hJ, h, hA, hP, hU => by
  have hA' := fun e he => hA e (List.mem_cons_of_mem _ he)
  have hU' := fun e he => hU e (List.mem_cons_of_mem _ he)
  obtain ⟨hP1, hP2⟩ := List.pairwise_cons.1 hP
  simp only [Ye8]
  cases ha : fA d.i with
  | true =>
   rw [hsub _ ha]
   simp only
   have hd := hA d List.mem_cons_self ha
   refine Yos hsub ds _ _ J hJ ⟨by rw [Yub, Yub, h.rlen], by rw [Ypf, Ypf, h.olen], fun x => ?_, fun x => ?_⟩ hA' hP2 hU'
   ·rw [Ywk, Ywk, <- h.rlen]
    by_cases hx : d.dst = some x /\ x < a.regs.length
    ·left
     rw [if_pos hx, if_pos hx]
     exact (Ypj (Yyi fun i hi => (hd i hi).1)).symm
    ·rw [if_neg hx, if_neg hx]
     refine (h.reg x).imp (fun e => ?_) id
     rw [e, Yur]
   ·rcases Yu3 a t d x h.olen with ⟨o, ho, e1, e2⟩ | ⟨e1, e2⟩
    ·left
     rw [e1, e2]
     exact (Ypl (Yuq fun i hi => (hd i hi).2 (x, o) ho)).symm
    ·rw [e1, e2]
     refine (h.obj x).imp (fun e => ?_) id
     rw [e, Yvf]
  | false =>
   simp only
   cases ht : fT d.i with
   | false => exact Yos hsub ds a t J hJ h hA' hP2 hU'
   | true =>
    simp only
    obtain ⟨h1, h2, h3⟩ := hU d List.mem_cons_self ht ha
    refine Yos hsub ds a _ (J ++ d.r.inv) (fun i hi => (List.mem_append.1 hi).elim (hJ i) (h3 i)) ⟨by rw [Yub, h.rlen], by rw [Ypf, h.olen], fun x => ?_, fun x => ?_⟩
     (fun e he hae i hi => (List.mem_append.1 hi).elim (hA' e he hae i) (hP1 e he ht ha hae i)) hP2 hU'
    ·rw [Ywk]
     by_cases hx : d.dst = some x /\ x < t.regs.length
     ·exact .inr (h1 x hx.1)
     ·rw [if_neg hx]
      refine (h.reg x).imp (fun e => ?_) id
      rw [e, Y10d]
    ·rcases Yu3 t t d x rfl with ⟨o, ho, e1, e2⟩ | ⟨e1, e2⟩
     ·exact .inr (h2 (x, o) ho)
     ·rw [e1]
      refine (h.obj x).imp (fun e => ?_) id
      rw [e, Y10p]
theorem Yyy.of_apart {u d : Eff} (h : u.apart d = true) : Yyy u d := by
 simp only [Eff.apart, Bool.and_eq_true, Bool.not_eq_true', List.all_eq_true] at h
 obtain ⟨⟨⟨⟨h1, h2⟩, h3⟩, h4⟩, h5⟩ := h
 intro x hx
 have hm : ∀ k ∈ [x], k ∈ u.r.inv := fun k hk => by rw [List.mem_singleton.1 hk]; exact hx
 exact ⟨Yvr hm h3, fun p hp => Ysl hm (h5 p hp)⟩
theorem Ysg (ids : List Nat) : ∀ (l : List Ob) (n i : Nat), (Ykp ids n l).getD i .free = .dead ∨
  ((Ykp ids n l).getD i .free = l.getD i .free /\ ((ids.elem (n + i) = false /\ (l.getD i .free).touch ids = false) ∨ l.length <= i))
 | [], n, i => .inr ⟨rfl, .inr (Nat.zero_le _)⟩
 | o :: l, n, 0 => by
  simp only [Ykp, List.getD_cons_zero, Nat.add_zero]
  cases h : (ids.elem n || o.touch ids) with
  | true => exact .inl rfl
  | false => exact .inr ⟨rfl, .inl (by simpa using h)⟩
 | o :: l, n, i + 1 => by
  simp only [Ykp, List.getD_cons_succ]
  refine (Ysg ids l (n + 1) i).imp id fun ⟨h1, h2⟩ => ⟨h1, h2.imp (fun h => ?_) (fun h => ?_)⟩
  ·rw [show n + (i + 1) = n + 1 + i by omega]; exact h
  ·simpa using h
theorem Y1a5 (s : St) (dst : Option Nat) (ids : List Nat) : (s.blot dst ids).regs.length = s.regs.length := by
 cases ids <;> cases dst <;> simp [St.blot, St.put]
theorem Y16u (ids : List Nat) : Yk6.touch ids = false := by cases ids <;> rfl
theorem Y1dt (s : St) (dst : Option Nat) (ids : List Nat) (t : Nat) : (s.blot dst ids).reg t = unk ∨
  ((s.blot dst ids).reg t = s.reg t /\ (dst ≠ some t ∨ s.regs.length <= t) /\ (s.reg t).touch ids = false) := by
 have key : ∀ s1 : St, s1.regs.length = s.regs.length -> (s1.reg t = unk ∨ (s1.reg t = s.reg t /\ (s.reg t).touch ids = false)) ->
   (s1.put dst unk).reg t = unk ∨ ((s1.put dst unk).reg t = s.reg t /\ (dst ≠ some t ∨ s.regs.length <= t) /\ (s.reg t).touch ids = false) := by
  intro s1 hl h
  rw [Y14d]
  by_cases hd : dst = some t /\ t < s1.regs.length
  ·rw [if_pos hd]; exact .inl rfl
  ·rw [if_neg hd]
   refine h.imp id fun ⟨h1, h2⟩ => ⟨h1, ?_, h2⟩
   by_cases hd1 : dst = some t
   ·exact .inr (by rw [<- hl]; exact Nat.le_of_not_lt fun hlt => hd ⟨hd1, hlt⟩)
   ·exact .inl hd1
 cases ids with
 | nil => exact key s rfl (.inr ⟨rfl, rfl⟩)
 | cons i ids =>
  refine key _ (by simp) ?_
  have e : (St.reg { s with regs := s.regs.map (Yof (i :: ids)), objs := Ykp (i :: ids) 0 s.objs } t) = Yof (i :: ids) (s.reg t) := Y150 s (Yof (i :: ids)) (by simp [Yof, Y16u]) t
  rw [e]
  unfold Yof
  cases h : (s.reg t).touch (i :: ids) with
  | true => exact .inl rfl
  | false => exact .inr ⟨rfl, rfl⟩
theorem Y1d6 (s : St) (dst : Option Nat) (ids : List Nat) (x : Nat) : (s.blot dst ids).obj x = .dead ∨
  ((s.blot dst ids).obj x = s.obj x /\ ((ids.elem x = false /\ (s.obj x).touch ids = false) ∨ s.obj x = .free)) := by
 cases ids with
 | nil =>
  right
  rw [St.blot, St.obj_put]
  exact ⟨rfl, .inl ⟨rfl, rfl⟩⟩
 | cons i ids =>
  rw [St.blot, St.obj_put]
  refine (Ysg (i :: ids) s.objs 0 x).imp id fun ⟨h1, h2⟩ => ⟨h1, h2.imp (fun h => ?_) fun h => ?_⟩
  ·rw [Nat.zero_add] at h; exact h
  ·simp [St.obj, List.getElem?_eq_none h]
theorem Ysi : ∀ (l : List (Option Nat × List Nat)) (s : St) (t : Nat), (Ygw s l).reg t = unk ∨
  ((Ygw s l).reg t = s.reg t /\ ∀ p ∈ l, (p.1 ≠ some t ∨ s.regs.length <= t) /\ (s.reg t).touch p.2 = false)
 | [], s, t => .inr ⟨rfl, fun _ h => by cases h⟩
 | (d, ids) :: l, s, t => by
  rw [Ygw]
  rcases Ysi l (s.blot d ids) t with h | ⟨h1, h2⟩
  ·exact .inl h
  ·rcases Y1dt s d ids t with h3 | ⟨h3, h4, h5⟩
   ·exact .inl (by rw [h1, h3])
   ·refine .inr ⟨by rw [h1, h3], fun p hp => ?_⟩
    rcases List.mem_cons.1 hp with rfl | hp
    ·exact ⟨h4, h5⟩
    ·have := h2 p hp
     rw [h3, Y1a5] at this
     exact this
theorem Ysm : ∀ (l : List (Option Nat × List Nat)) (s : St) (x : Nat), ((Ygw s l).obj x = .dead ∨ (Ygw s l).obj x = .free) ∨
  ((Ygw s l).obj x = s.obj x /\ ∀ p ∈ l, p.2.elem x = false /\ (s.obj x).touch p.2 = false)
 | [], s, x => .inr ⟨rfl, fun _ h => by cases h⟩
 | (d, ids) :: l, s, x => by
  rw [Ygw]
  rcases Ysm l (s.blot d ids) x with h | ⟨h1, h2⟩
  ·exact .inl h
  ·rcases Y1d6 s d ids x with h3 | ⟨h3, h4⟩
   ·exact .inl (.inl (by rw [h1, h3]))
   ·rcases h4 with h4 | h4
    ·refine .inr ⟨by rw [h1, h3], fun p hp => ?_⟩
     rcases List.mem_cons.1 hp with rfl | hp
     ·exact h4
     ·have := h2 p hp
      rw [h3] at this
      exact this
    ·exact .inl (.inr (by rw [h1, h3, h4]))
theorem Yn6 {ms : List Nat} {bls : List (Option Nat × List Nat)} {i j : Nat} (h : Ymt ms i j = true) : ∀ {l : List Nat}, j ∈ l -> bls.getD j (none, []) ∈ Yhx ms bls i l
 | k :: l, hm => by
  simp only [Yhx]
  rcases List.mem_cons.1 hm with rfl | hm
  ·rw [h]; exact List.mem_cons_self
  ·split
   ·exact List.mem_cons_of_mem _ (Yn6 h hm)
   ·exact Yn6 h hm
theorem Y159 {s : St} {t : Nat} (h : s.regs.length <= t) : s.reg t = Yk6 := by simp [St.reg, List.getElem?_eq_none h, Yk6]
theorem Y1ij {n : Nat} {ms : List Nat} {bls : List (Option Nat × List Nat)} {s0 : St} {ds : List Eff} {i : Nat} {fT : Nat -> Bool}
  (hsub : ∀ j, (ms.getD i 0).testBit j = true -> fT j = true)
  (hn : ∀ d ∈ ds, d.i < n)
  (hun : ∀ d ∈ ds, fT d.i = true -> (ms.getD i 0).testBit d.i = false -> Ymt ms i d.i = true)
  (hbl : ∀ d ∈ ds, (bls.getD d.i (none, [])).1 = d.dst /\ (∀ p ∈ d.obs, (bls.getD d.i (none, [])).2.elem p.1 = true) /\ ∀ x ∈ d.r.inv, (bls.getD d.i (none, [])).2.elem x = true)
  (hap : ds.Pairwise fun u d => fT u.i = true -> (ms.getD i 0).testBit u.i = false -> (ms.getD i 0).testBit d.i = true -> u.apart d = true) :
  Le (mkS n ms bls s0 ds i) (Ye8 fT s0 ds) := by
 let U (d : Eff) : Prop := d ∈ ds /\ fT d.i = true /\ (ms.getD i 0).testBit d.i = false
 obtain ⟨J, hJ, h⟩ := Yos (fA := fun j => (ms.getD i 0).testBit j) (fT := fT) hsub (Dt := fun x => ∃ u, U u /\ u.dst = some x) (Ox := fun x => ∃ u, U u /\ ∃ p ∈ u.obs, p.1 = x) (Jx := fun x => ∃ u, U u /\ x ∈ u.r.inv) ds s0 s0 []
  (fun _ hx => by cases hx) ⟨rfl, rfl, fun x => .inl (Yq9 _).symm, fun x => .inl (Yrl _).symm⟩
  (fun _ _ _ _ hx => by cases hx) (hap.imp fun hh h1 h2 h3 => Yyy.of_apart (hh h1 h2 h3))
  (fun d hd h1 h2 => ⟨fun x hx => ⟨d, ⟨hd, h1, h2⟩, hx⟩, fun p hp => ⟨d, ⟨hd, h1, h2⟩, p, hp, rfl⟩, fun x hx => ⟨d, ⟨hd, h1, h2⟩, hx⟩⟩)
 have hmem : ∀ u, U u -> bls.getD u.i (none, []) ∈ Yhx ms bls i (List.range n) := fun u hu => Yn6 (hun u hu.1 hu.2.1 hu.2.2) (List.mem_range.2 (hn u hu.1))
 constructor
 ·intro t
  rcases Ysi (Yhx ms bls i (List.range n)) (Ye8 (fun j => (ms.getD i 0).testBit j) s0 ds) t with h1 | ⟨h1, h2⟩
  ·exact .inl h1
  ·right
   show _ = (Ygw _ _).reg t
   rw [h1]
   by_cases hl : (Ye8 (fun j => (ms.getD i 0).testBit j) s0 ds).regs.length <= t
   ·rw [Y159 hl, Y159 (by rw [<- h.rlen]; exact hl)]
   ·rcases h.reg t with h3 | ⟨u, hu, hd⟩
    ·rw [h3]
     refine Ypj (Yyi fun x hx => ?_)
     obtain ⟨u, hu, hxu⟩ := hJ x hx
     refine Yvr (fun k hk => ?_) (h2 _ (hmem u hu)).2
     rw [List.mem_singleton.1 hk]
     have := (hbl u hu.1).2.2 x hxu
     simpa using this
    ·have := (h2 _ (hmem u hu)).1
     rw [(hbl u hu.1).1] at this
     exact (this.elim (fun k => k hd) fun k => hl k).elim
 ·intro x
  rcases Ysm (Yhx ms bls i (List.range n)) (Ye8 (fun j => (ms.getD i 0).testBit j) s0 ds) x with h1 | ⟨h1, h2⟩
  ·exact .inl h1.symm
  ·right
   show _ = (Ygw _ _).obj x
   rw [h1]
   rcases h.obj x with h3 | ⟨u, hu, p, hp, rfl⟩
   ·rw [h3]
    refine Ypl (Yuq fun y hy => ?_)
    obtain ⟨u, hu, hyu⟩ := hJ y hy
    refine Ysl (fun k hk => ?_) (h2 _ (hmem u hu)).2
    rw [List.mem_singleton.1 hk]
    have := (hbl u hu.1).2.2 y hyu
    simpa using this
   ·have h4 := (h2 _ (hmem u hu)).1
    have h5 := (hbl u hu.1).2.1 p hp
    rw [h4] at h5; cases h5
theorem Y12j {ops : Array Oper} (hp : ∀ i, ∀ p ∈ Yds ops i, p < i) {i p x : Nat} (h1 : p ∈ Yds ops i) (h2 : x = p ∨ (mk ops p).testBit x = true) : (mk ops i).testBit x = true := by
 have key : ∀ (ms : List Nat) (ps : List Nat), p ∈ ps -> (x = p ∨ (ms.getD p 0).testBit x = true) -> (Ylj ms ps).testBit x = true := by
  intro ms ps
  induction ps with
  | nil => intro h; cases h
  | cons q ps ih =>
   intro hm hx
   simp only [Ylj, Nat.testBit_or, Bool.or_eq_true, Nat.one_shiftLeft, Nat.testBit_two_pow, decide_eq_true_eq]
   rcases List.mem_cons.1 hm with rfl | hm
   ·rcases hx with rfl | hx
    ·exact .inl (.inr rfl)
    ·exact .inr hx
   ·exact .inl (.inl (ih hm hx))
 refine key (Yie ops i) _ h1 (h2.imp id fun h => ?_)
 rw [Yjo ops i p (hp i p h1)]; exact h
theorem Yzv {ops : Array Oper} (hp : ∀ i, ∀ p ∈ Yds ops i, p < i) : ∀ (n i d e : Nat), i < n -> (mk ops i).testBit d = true -> (mk ops d).testBit e = true -> (mk ops i).testBit e = true
 | 0, i, d, e, hi, _, _ => by omega
 | n + 1, i, d, e, hi, h1, h2 => by
  obtain ⟨p, hpi, h⟩ := Y131 h1
  rcases h with rfl | ⟨hlt, h⟩
  ·exact Y12j hp hpi (.inr h2)
  ·exact Y12j hp hpi (.inr (Yzv hp n p d e (by omega) h h2))
def Ygp : List Item -> Prop
 | [] => True
 | .asm p :: r => p /\ Ygp r
 | .obl _ :: r => Ygp r
theorem VC.mono : ∀ {it : List Item} {K K' : Prop}, (K -> K') -> VC it K -> VC it K'
 | [], _, _, h, k => h k
 | .asm _ :: _, _, _, h, k => fun p => VC.mono h (k p)
 | .obl _ :: _, _, _, h, k => ⟨k.1, VC.mono h k.2⟩
theorem VC.of_obl : ∀ {it : List Item}, Yt4 it True -> VC it (Ygp it)
 | [], _ => trivial
 | .asm p :: r, h => fun hp => VC.mono (fun k => ⟨hp, k⟩) (VC.of_obl (it := r) h)
 | .obl p :: r, h => ⟨h.1, VC.of_obl (it := r) h.2⟩
theorem Ypp : ∀ {it : List Item} {K : Prop}, Y12c it K -> Ygp it -> K
 | [], _, h, _ => h
 | .asm _ :: r, _, h, k => Ypp (it := r) (h k.1) k.2
 | .obl _ :: r, _, h, k => Ypp (it := r) h k
theorem Yhr {f g : Nat -> Bool} : ∀ {ds : List Eff} {s : St}, (∀ d ∈ ds, f d.i = g d.i) -> Ye8 f s ds = Ye8 g s ds
 | [], _, _ => rfl
 | d :: ds, s, h => by
  simp only [Ye8, h d List.mem_cons_self]
  split <;> exact Yhr fun e he => h e (List.mem_cons_of_mem _ he)
theorem Ynt {f : Nat -> Bool} {i : Nat} (hf : f i = false) : ∀ {ds : List Eff} {s : St} {d : Eff}, d ∈ ds -> d.i = i -> (ds.map (·.i)).Nodup ->
  (ds.Pairwise fun x y => x.i = i -> f y.i = true -> x.apart y = true) -> Ye8 (fun j => Nat.beq j i || f j) s ds = (Ye8 f s ds).eff d
 | x :: ds, s, d, hm, hd, hnd, hP => by
  obtain ⟨hn1, hn2⟩ := List.nodup_cons.1 (by simpa using hnd : (x.i :: ds.map (·.i)).Nodup)
  obtain ⟨hP1, hP2⟩ := List.pairwise_cons.1 hP
  simp only [Ye8]
  rcases List.mem_cons.1 hm with rfl | hm'
  ·rw [hd, hf]
   simp only [Nat.beq_refl, Bool.true_or]
   have hc : ∀ e ∈ ds, (fun j => Nat.beq j i || f j) e.i = f e.i := by
    intro e he
    have hne : e.i ≠ i := fun h => hn1 (by rw [hd, <- h]; exact List.mem_map_of_mem he)
    have : Nat.beq e.i i = false := by rw [<- Bool.not_eq_true]; exact fun h => hne (Nat.eq_of_beq_eq_true h)
    simp [this]
   rw [Yhr hc]
   have mv : ∀ (l : List Eff) (s : St), (∀ e ∈ l, f e.i = true -> d.apart e = true) -> Ye8 f (s.eff d) l = (Ye8 f s l).eff d := by
    intro l
    induction l with
    | nil => intro s _; rfl
    | cons e l ih =>
     intro s hl
     simp only [Ye8]
     cases he : f e.i with
     | false => exact ih s fun e' he' => hl e' (List.mem_cons_of_mem _ he')
     | true =>
      simp only
      rw [Y1bv s (hl e List.mem_cons_self he)]
      exact ih _ fun e' he' => hl e' (List.mem_cons_of_mem _ he')
   exact mv ds s fun e he hfe => hP1 e he hd hfe
  ·have hne : x.i ≠ i := fun h => hn1 (by rw [h, <- hd]; exact List.mem_map_of_mem hm')
   have : Nat.beq x.i i = false := by rw [<- Bool.not_eq_true]; exact fun h => hne (Nat.eq_of_beq_eq_true h)
   simp only [this, Bool.false_or]
   cases f x.i with
   | true => exact Ynt hf hm' hd hn2 hP2
   | false => exact Ynt hf hm' hd hn2 hP2
theorem Yqc (f : Nat -> Bool) : ∀ (ds : List Eff) (s : St), (Ye8 f s ds).objs.length = s.objs.length
 | [], _ => rfl
 | d :: ds, s => by
  simp only [Ye8]
  split
  ·rw [Yqc f ds, Ypf]
  ·exact Yqc f ds s
theorem Yqa (f : Nat -> Bool) {x : Nat} : ∀ (ds : List Eff) (s : St), s.obj x = .free -> (∀ d ∈ ds, f d.i = true -> ∀ p ∈ d.obs, p.1 ≠ x) -> (Ye8 f s ds).obj x = .free
 | [], s, h, _ => h
 | d :: ds, s, h, hd => by
  simp only [Ye8]
  cases hf : f d.i with
  | false => exact Yqa f ds s h fun e he => hd e (List.mem_cons_of_mem _ he)
  | true =>
   refine Yqa f ds _ ?_ fun e he => hd e (List.mem_cons_of_mem _ he)
   rcases Yu3 s s d x rfl with ⟨o, ho, _⟩ | ⟨e, _⟩
   ·exact absurd rfl (hd d List.mem_cons_self hf (x, o) ho)
   ·rw [e, h]; rfl
def Yz1 (P : Program) (ops : Array Oper) (ms : List Nat) (bls : List (Option Nat × List Nat)) (s0 : St) (ds : List Eff) (d : Eff) : Prop :=
  ∃ o, ops[d.i]? = some o /\ d.dst = o.dst /\
    ((Yj0 ops (mkS ops.size ms bls s0 ds d.i) o = some false /\ d.val = .tup [] /\ d.r = {} /\ d.it = []) ∨
     (Yj0 ops (mkS ops.size ms bls s0 ds d.i) o = some true /\ d.k = Yf0 o /\ d.val = d.r.val /\ (∃ q q', aop P (mkS ops.size ms bls s0 ds d.i) o d.n q = some (d.r, d.it, q')) /\ Yt4 d.it True))
structure DPlan (P : Program) (ops : Array Oper) (ms : List Nat) (bls : List (Option Nat × List Nat)) (s0 : St) (ds : List Eff) : Prop where
 hms : ms = Yie ops ops.size
 good : ∀ d ∈ ds, Yz1 P ops ms bls s0 ds d
 idx : ds.map (·.i) = List.range ops.size
 pre : ∀ i, ∀ p ∈ Yds ops i, p < i
 bl : ∀ d ∈ ds, (bls.getD d.i (none, [])).1 = d.dst /\ (∀ p ∈ d.obs, (bls.getD d.i (none, [])).2.elem p.1 = true) /\ ∀ x ∈ d.r.inv, (bls.getD d.i (none, [])).2.elem x = true
 room : ∀ d ∈ ds, ∀ x, d.n <= x -> x < d.n + d.k -> s0.obj x = .free /\ x < s0.objs.length
 far : ∀ d ∈ ds, ∀ e ∈ ds, d.i ≠ e.i -> (ms.getD e.i 0).testBit d.i = false -> ∀ p ∈ e.obs, p.1 < d.n ∨ d.n + d.k <= p.1
 ap : ∀ d ∈ ds, ∀ e ∈ ds, Ymt ms d.i e.i = true -> d.apart e = true
section
variable {P : Program} {E : Ent P} {ops : Array Oper} {ms : List Nat} {bls : List (Option Nat × List Nat)} {s0 : St} {ds : List Eff}
def Lst (listed : Array Bool) (j : Nat) : Bool := listed.getD j false
theorem Yha {i : Nat} {o : Oper} (ho : ops[i]? = some o) {p : Nat} : p ∈ Yds ops i ↔ ∃ e ∈ o.after, Region.binds .any e = true /\ e.on = p := by
 simp only [Yds, ho, List.mem_map, List.mem_filter, Array.mem_toList_iff]
 constructor
 ·rintro ⟨e, ⟨h1, h2⟩, h3⟩; exact ⟨e, h1, h2, h3⟩
 ·rintro ⟨e, h1, h2, h3⟩; exact ⟨e, ⟨h1, h2⟩, h3⟩
theorem Yfb {listed : Array Bool} {i : Nat} (h : i ∈ Region.ready .any ops listed) (hsz : listed.size = ops.size) : Lst listed i = false /\ i < ops.size /\ ∀ p ∈ Yds ops i, Lst listed p = true := by
 obtain ⟨h0, o, ho, hall⟩ := mem_ready.1 h
 have hlt : i < ops.size := (Array.getElem?_eq_some_iff.1 ho).1
 refine ⟨?_, hlt, fun p hp => ?_⟩
 ·simp only [Lst, Array.getD_eq_getD_getElem?] at h0 ⊢
  rw [Array.getElem?_eq_getElem (by omega)] at h0 ⊢
  exact h0
 ·obtain ⟨e, h1, h2, rfl⟩ := (Yha ho).1 hp
  exact hall e h1 h2
theorem Yqt {listed : Array Bool} (h : Region.ready .any ops listed = []) (hsz : listed.size = ops.size) (hp : ∀ i, ∀ p ∈ Yds ops i, p < i) : ∀ n j, j < n -> j < ops.size -> Lst listed j = true
 | 0, j, hj, _ => by omega
 | n + 1, j, hj, hjs => by
  cases hl : Lst listed j with
  | true => rfl
  | false =>
   exfalso
   have : j ∈ Region.ready .any ops listed := by
    refine mem_ready.2 ⟨?_, ops[j], Array.getElem?_eq_getElem hjs, fun e he hb => ?_⟩
    ·simp only [Lst, Array.getD_eq_getD_getElem?] at hl ⊢
     rw [Array.getElem?_eq_getElem (by omega)] at hl ⊢
     exact hl
    ·have hm : e.on ∈ Yds ops j := (Yha (Array.getElem?_eq_getElem hjs)).2 ⟨e, he, hb, rfl⟩
     have := hp j _ hm
     exact Yqt h hsz hp n e.on (by omega) (by omega)
   rw [h] at this; cases this
theorem Yhi {listed : Array Bool} {i : Nat} (hi : i < listed.size) (j : Nat) : Lst (listed.setIfInBounds i true) j = (Nat.beq j i || Lst listed j) := by
 simp only [Lst, Array.getD_eq_getD_getElem?, Array.getElem?_setIfInBounds]
 by_cases h : i = j
 ·subst h; simp [hi]
 ·have : Nat.beq j i = false := by rw [<- Bool.not_eq_true]; exact fun e => h (Nat.eq_of_beq_eq_true e).symm
  simp [h, this]
theorem Yjq {p q : Nat -> Bool} {i : Nat} : ∀ {l : List Nat}, i ∈ l -> p i = true -> q i = false -> (∀ j, q j = true -> p j = true) -> l.countP q < l.countP p
 | x :: l, hm, hp, hq, hle => by
  have hmono : l.countP q <= l.countP p := List.countP_mono_left fun j _ h => hle j h
  rcases List.mem_cons.1 hm with rfl | hm
  ·simp only [List.countP_cons, hp, hq]; simp; omega
  ·have := Yjq hm hp hq hle
   simp only [List.countP_cons]
   by_cases hx : q x = true
   ·simp [hx, hle x hx]; omega
   ·have : (if q x = true then 1 else 0) = 0 := by simp [hx]
    rw [this]; split <;> omega
theorem DPlan.find (pl : DPlan P ops ms bls s0 ds) {i : Nat} (hi : i < ops.size) : ∃ d ∈ ds, d.i = i := by
 have : i ∈ ds.map (·.i) := by rw [pl.idx]; exact List.mem_range.2 hi
 simpa using this
theorem DPlan.lt (pl : DPlan P ops ms bls s0 ds) {d : Eff} (hd : d ∈ ds) : d.i < ops.size := by
 have : d.i ∈ ds.map (·.i) := List.mem_map_of_mem hd
 rw [pl.idx] at this
 simpa using this
theorem DPlan.sorted (pl : DPlan P ops ms bls s0 ds) : ds.Pairwise fun x y => x.i < y.i /\ x ∈ ds /\ y ∈ ds := by
  have h : (ds.map (·.i)).Pairwise (· < ·) := by rw [pl.idx]; exact List.pairwise_lt_range
  have h2 : ds.Pairwise fun x y => x.i < y.i := List.pairwise_map.1 h
  exact (List.Pairwise.and_mem.1 h2).imp fun ⟨a, b, c⟩ => ⟨c, a, b⟩
theorem DPlan.mkget (pl : DPlan P ops ms bls s0 ds) {i : Nat} (hi : i < ops.size) : ms.getD i 0 = Ab.mk ops i := by rw [pl.hms]; exact Yjo ops _ _ hi
theorem Ypi {i j : Nat} : Ymt ms i j = true ↔ i ≠ j /\ (ms.getD i 0).testBit j = false /\ (ms.getD j 0).testBit i = false := by
 simp only [Ymt, Bool.and_eq_true, Bool.not_eq_true', and_assoc]
 constructor
 ·rintro ⟨h1, h2⟩; exact ⟨Nat.ne_of_beq_eq_false h1, h2⟩
 ·rintro ⟨h1, h2⟩; exact ⟨by rw [<- Bool.not_eq_true]; exact fun e => h1 (Nat.eq_of_beq_eq_true e), h2⟩
theorem Yli (pl : DPlan P ops ms bls s0 ds) {Q : Exit -> Act -> World -> Prop} {listed : Array Bool} {ι : Interp} {a : Act} {w : World} {i : Nat} (hr : i ∈ Region.ready .any ops listed) (hsz : listed.size = ops.size)
  (hcl : ∀ j, Lst listed j = true -> ∀ p ∈ Yds ops j, Lst listed p = true) (h : Rel E (Ye8 (Lst listed) s0 ds) ι a w) {K : Act -> World -> Prop}
  (hK : ∀ ι' a' w', Rel E (Ye8 (Lst (listed.setIfInBounds i true)) s0 ds) ι' a' w' -> (∀ d ∈ ds, d.i = i -> Ygp d.it) -> K a' w') : wpOp P ops Q i K a w := by
 obtain ⟨hni, hi, hpre⟩ := Yfb hr hsz
 obtain ⟨d, hd, hdi⟩ := pl.find hi
 have huniq : ∀ e ∈ ds, e.i = i -> e = d := by
  intro e he hei
  have hs := pl.sorted
  by_cases hne : e = d
  ·exact hne
  ·exfalso
   have : ∀ (l : List Eff), l.Pairwise (fun x y => x.i < y.i /\ x ∈ ds /\ y ∈ ds) -> e ∈ l -> d ∈ l -> e ≠ d -> e.i ≠ d.i := by
    intro l hl
    induction hl with
    | nil => intro h; cases h
    | cons h1 _ ih =>
     intro h2 h3 h4
     rcases List.mem_cons.1 h2 with k2 | k2 <;> rcases List.mem_cons.1 h3 with k3 | k3
     ·exact absurd (k2.trans k3.symm) h4
     ·have := (h1 _ k3).1; rw [k2]; omega
     ·have := (h1 _ k2).1; rw [k3]; omega
     ·exact ih k2 k3 h4
   exact this ds hs he hd hne (by rw [hei, hdi])
 have hcl' : ∀ j, (Lst listed j = true) -> ∀ p ∈ Yds ops j, Lst listed p = true := hcl
 have hmi : ∀ x, (mk ops i).testBit x = true -> Lst listed x = true := fun x hx => Yni (L := fun j => Lst listed j = true) hcl' (i + 1) i x (by omega) hpre hx
 have hmj : ∀ j x, Lst listed j = true -> (mk ops j).testBit x = true -> Lst listed x = true := fun j x hj hx => Yni (L := fun j => Lst listed j = true) hcl' (j + 1) j x (by omega) (hcl j hj) hx
 have hgi := pl.mkget hi
 have hle : Le (mkS ops.size ms bls s0 ds i) (Ye8 (Lst listed) s0 ds) := by
  refine Y1ij (fun j hj => hmi j (by rw [<- hgi]; exact hj)) (fun e he => pl.lt he) (fun e he h1 h2 => ?_) pl.bl ?_
  ·refine Ypi.2 ⟨fun hh => ?_, h2, ?_⟩
   ·rw [<- hh, hni] at h1; cases h1
   ·rw [pl.mkget (pl.lt he), <- Bool.not_eq_true]
    intro hb
    rw [hmj e.i i h1 hb] at hni; cases hni
  ·refine pl.sorted.imp fun {u e} ⟨hlt, hu, he⟩ h1 h2 h3 => pl.ap u hu e he (Ypi.2 ⟨by omega, ?_, ?_⟩)
   ·rw [pl.mkget (pl.lt hu), <- Bool.not_eq_true]
    intro hb
    have := Yyz pl.pre (u.i + 1) u.i e.i (by omega) hb
    omega
   ·rw [pl.mkget (pl.lt he), <- Bool.not_eq_true]
    intro hb
    rw [hgi] at h2 h3
    rw [Yzv pl.pre (i + 1) i e.i u.i (by omega) h3 hb] at h2; cases h2
 have hset : Ye8 (Lst (listed.setIfInBounds i true)) s0 ds = (Ye8 (Lst listed) s0 ds).eff d := by
  rw [Yhr (g := fun j => Nat.beq j i || Lst listed j) fun e _ => Yhi (by omega) e.i]
  refine Ynt hni hd hdi (by rw [pl.idx]; exact List.nodup_range) ?_
  refine pl.sorted.imp fun {x y} ⟨hlt, hx, hy⟩ h1 h2 => pl.ap x hx y hy (Ypi.2 ⟨by omega, ?_, ?_⟩)
  ·rw [pl.mkget (pl.lt hx), <- Bool.not_eq_true]
   intro hb
   have := Yyz pl.pre (x.i + 1) x.i y.i (by omega) hb
   omega
  ·rw [pl.mkget (pl.lt hy), <- Bool.not_eq_true]
   intro hb
   rw [h1] at hb
   rw [hmj y.i i h2 hb] at hni; cases hni
 rw [hset] at hK
 obtain ⟨o, ho, hdst, hgood⟩ := pl.good d hd
 rw [hdi] at ho hgood
 unfold wpOp
 simp only [ho]
 rcases hgood with ⟨hw, hv, hr0, hit⟩ | ⟨hw, hk, hv, ⟨q, q', he⟩, hob⟩
 ·rw [Ym5 h (hle.wanted hw)]
  simp only [Bool.false_eq_true, if_false]
  refine hK ι _ _ ?_ fun e he hei => by rw [huniq e he hei, hit]; trivial
  have : (Ye8 (Lst listed) s0 ds).eff d = (Ye8 (Lst listed) s0 ds).put o.dst (.tup []) := by
   rw [St.eff, hr0, hv, hdst]; rfl
  rw [this]
  exact Rel.put h o.dst Yxn
 ·rw [Ym5 h (hle.wanted hw)]
  simp only [if_true]
  left
  have hroom : Yhg (Ye8 (Lst listed) s0 ds) d.n (Yf0 o) := by
   intro x h1 h2
   obtain ⟨h3, h4⟩ := pl.room d hd x h1 (by rw [hk]; exact h2)
   refine ⟨Yqa _ ds s0 h3 fun e hem hle p hp hpx => ?_, by rw [Yqc]; exact h4⟩
   have hne : d.i ≠ e.i := by
    intro hh
    rw [<- hh, hdi, hni] at hle; cases hle
   have := pl.far d hd e hem hne (by
    rw [pl.mkget (pl.lt hem), <- Bool.not_eq_true]
    intro hb
    rw [hdi] at hb
    rw [hmj e.i i hle hb] at hni; cases hni) p hp
   rw [hk] at this
   omega
  obtain ⟨h1, h2⟩ := Yqq h (hle.aop he) (VC.of_obl hob) hroom
  refine h1 _ _ fun ι' v w' hr' hv' => hK ι' _ _ ?_ fun e hem hei => by rw [huniq e hem hei]; exact h2
  rw [St.eff, hdst, hv]
  exact Rel.put hr' o.dst hv'
theorem Y1d5 (pl : DPlan P ops ms bls s0 ds) {Q : Exit -> Act -> World -> Prop} (hQ : ∀ ι a w, Rel E (Ye8 (fun _ => true) s0 ds) ι a w -> (∀ d ∈ ds, Ygp d.it) -> Q .normal a w) :
  ∀ (fuel : Nat) (listed : Array Bool) (ι : Interp) (a : Act) (w : World), listed.size = ops.size -> (∀ j, Lst listed j = true -> ∀ p ∈ Yds ops j, Lst listed p = true) ->
   (List.range ops.size).countP (fun j => !Lst listed j) <= fuel -> Rel E (Ye8 (Lst listed) s0 ds) ι a w -> (∀ d ∈ ds, Lst listed d.i = true -> Ygp d.it) -> wpAny P .any ops Q fuel listed a w := by
 intro fuel
 have hend : ∀ (listed : Array Bool) (ι : Interp) (a : Act) (w : World), listed.size = ops.size -> Rel E (Ye8 (Lst listed) s0 ds) ι a w -> (∀ d ∈ ds, Lst listed d.i = true -> Ygp d.it) ->
   Region.ready .any ops listed = [] -> Q .normal a w := by
  intro listed ι a w hsz h hasm hnil
  have hall : ∀ d ∈ ds, Lst listed d.i = true := fun d hd => Yqt hnil hsz pl.pre (d.i + 1) d.i (by omega) (pl.lt hd)
  refine hQ ι a w ?_ fun d hd => hasm d hd (hall d hd)
  rw [Yhr (g := fun _ => true) hall] at h
  exact h
 induction fuel with
 | zero =>
  intro listed ι a w hsz hcl hun h hasm
  have hnil : Region.ready .any ops listed = [] := by
   cases hr : Region.ready .any ops listed with
   | nil => rfl
   | cons i l =>
    exfalso
    obtain ⟨h1, h2, _⟩ := Yfb (ops := ops) (i := i) (by rw [hr]; exact List.mem_cons_self) hsz
    have h0 : (List.range ops.size).countP (fun j => !Lst listed j) = 0 := Nat.le_zero.1 hun
    have := List.countP_eq_zero.1 h0 i (List.mem_range.2 h2)
    simp [h1] at this
  exact ⟨hnil, hend listed ι a w hsz h hasm hnil⟩
 | succ fuel ih =>
  intro listed ι a w hsz hcl hun h hasm
  refine ⟨hend listed ι a w hsz h hasm, fun i hi => ?_⟩
  obtain ⟨hni, hlt, hpre⟩ := Yfb hi hsz
  have hset := fun j => Yhi (listed := listed) (i := i) (by omega) j
  refine Yli pl hi hsz hcl h fun ι' a' w' hr' hasm' => ih _ ι' a' w' (by simpa using hsz) (fun j hj p hp => ?_) ?_ hr' fun d hd hdl => ?_
  ·rw [hset, Bool.or_eq_true] at hj ⊢
   right
   rcases hj with hj | hj
   ·have := Nat.eq_of_beq_eq_true hj
    subst this
    exact hpre p hp
   ·exact hcl j hj p hp
  ·have : (List.range ops.size).countP (fun j => !Lst (listed.setIfInBounds i true) j) < (List.range ops.size).countP (fun j => !Lst listed j) := by
    refine Yjq (i := i) (List.mem_range.2 hlt) (by simp [hni]) (by rw [hset]; simp) fun j hj => ?_
    rw [hset] at hj
    simp only [Bool.not_eq_true', Bool.or_eq_false_iff] at hj ⊢
    exact hj.2
   omega
  ·rw [hset, Bool.or_eq_true] at hdl
   rcases hdl with hdl | hdl
   ·exact hasm' d hd (Nat.eq_of_beq_eq_true hdl)
   ·exact hasm d hd hdl
end
end Go.Proofs.YtclpofblehlojaaGreat.Ab
end
section
namespace Go.Proofs.YtclpofblehlojaaGreat.Ab
open Go
section
variable {P : Program} {E : Ent P} {ops : Array Oper} {ms : List Nat} {bls : List (Option Nat × List Nat)} {s0 : St}
theorem Ysq (f : Nat -> Bool) : ∀ (a b : List Eff) (s : St), Ye8 f s (a ++ b) = Ye8 f (Ye8 f s a) b
 | [], b, s => rfl
 | d :: a, b, s => by
  simp only [List.cons_append, Ye8]
  split <;> exact Ysq f a b _
theorem Ynp {f : Nat -> Bool} : ∀ {b : List Eff} {s : St}, (∀ d ∈ b, f d.i = false) -> Ye8 f s b = s
 | [], _, _ => rfl
 | d :: b, s, h => by
  simp only [Ye8, h d List.mem_cons_self]
  exact Ynp fun e he => h e (List.mem_cons_of_mem _ he)
def Y17i (P : Program) (ops : Array Oper) (ms : List Nat) (bls : List (Option Nat × List Nat)) (s0 : St) : List Eff -> List Eff -> Prop
 | _, [] => True
 | pre, d :: r => Yz1 P ops ms bls s0 pre d /\ Y17i P ops ms bls s0 (pre ++ [d]) r
theorem Ym1 : ∀ {it : List Item} {K : Prop}, Yt4 it K -> Yt4 it True /\ K
 | [], _, h => ⟨trivial, h⟩
 | .asm _ :: r, _, h => Ym1 (it := r) h
 | .obl _ :: r, _, h => ⟨⟨h.1, (Ym1 (it := r) h.2).1⟩, (Ym1 (it := r) h.2).2⟩
theorem Y17q {src : Bool} {v : AV} {q : List Orc} {k : AV -> List Orc -> Prop} (h : Yw6 src v q k) : ∃ q', k v q' := by
 unfold Yw6 at h
 split at h
 ·rename_i b
  split at h
  ·obtain ⟨rfl, h⟩ := h; exact ⟨_, h⟩
  ·cases b
   ·exact ⟨_, h.2 rfl⟩
   ·exact ⟨_, h.1 rfl⟩
  ·cases h
 ·exact ⟨_, h⟩
theorem Ym0 : ∀ {l : List Nat} {n : Nat} {pre : List Eff} {its : List Item} {q : List Orc} {k : List Eff -> List Item -> List Orc -> Prop}, Yta P ops ms bls s0 l n pre its q k ->
  ∃ r q', Y17i P ops ms bls s0 pre r /\ k (pre ++ r) (its ++ r.flatMap (·.it)) q'
 | [], n, pre, its, q, k, h => ⟨[], q, trivial, by simpa [Yta] using h⟩
 | i :: l, n, pre, its, q, k, h => by
  unfold Yta at h
  split at h
  ·exact h.elim
  ·rename_i o ho
   rw [Y1fr] at h
   split at h
   ·cases h
   ·rename_i hw
    rw [Ygf, Yeu Y128] at h
    obtain ⟨r, q', hc, hk⟩ := Ym0 h
    refine ⟨(⟨i, o.dst, .tup [], n, Yf0 o, {}, []⟩ : Eff) :: r, q', ⟨⟨o, ho, rfl, .inl ⟨hw, rfl, rfl, rfl⟩⟩, hc⟩, ?_⟩
    rw [List.append_assoc] at hk
    simpa only [List.flatMap_cons, List.nil_append, List.singleton_append, List.append_assoc] using hk
   ·rename_i hw
    split at h
    ·cases h
    ·rename_i r1 it q1 he
     obtain ⟨hob, h⟩ := Ym1 h
     rw [Y1g0] at h
     obtain ⟨q2, h⟩ := Y17q h
     rw [Ygf, Yeu Y128, Yeu Y128] at h
     obtain ⟨r, q', hc, hk⟩ := Ym0 h
     refine ⟨(⟨i, o.dst, r1.val, n, Yf0 o, r1, it⟩ : Eff) :: r, q', ⟨⟨o, ho, rfl, .inr ⟨hw, rfl, rfl, ⟨q, q1, he⟩, hob⟩⟩, hc⟩, ?_⟩
     rw [List.append_assoc] at hk
     simpa only [List.flatMap_cons, List.singleton_append, List.append_assoc] using hk
theorem Y169 {n i : Nat} {pre r : List Eff} (h : ∀ d ∈ r, (ms.getD i 0).testBit d.i = false) : mkS n ms bls s0 (pre ++ r) i = mkS n ms bls s0 pre i := by
 unfold mkS
 rw [Ysq, Ynp h]
theorem Ypq (hms : ms = Yie ops ops.size) (hp : ∀ i, ∀ p ∈ Yds ops i, p < i) : ∀ {r pre : List Eff}, (pre ++ r).map (·.i) = List.range ops.size -> Y17i P ops ms bls s0 pre r -> ∀ d ∈ r, Yz1 P ops ms bls s0 (pre ++ r) d
  | d :: r, pre, hr, hc, x, hx => by
    have hassoc : pre ++ d :: r = (pre ++ [d]) ++ r := by simp
    rcases List.mem_cons.1 hx with rfl | hx
    · have hpw : ((pre ++ x :: r).map (·.i)).Pairwise (· < ·) := by rw [hr]; exact List.pairwise_lt_range
      have hpw2 : (x :: r).Pairwise fun a b => a.i < b.i := (List.pairwise_append.1 (List.pairwise_map.1 hpw)).2.1
      have hxi : x.i < ops.size := by
        have : x.i ∈ (pre ++ x :: r).map (·.i) := List.mem_map_of_mem (by simp)
        rw [hr] at this; simpa using this
      have e : mkS ops.size ms bls s0 (pre ++ x :: r) x.i = mkS ops.size ms bls s0 pre x.i := by
        refine Y169 fun d hd => ?_
        rw [hms, Yjo ops _ _ hxi, <- Bool.not_eq_true]
        intro hb
        have hlt := Yyz hp (x.i + 1) x.i d.i (by omega) hb
        rcases List.mem_cons.1 hd with rfl | hd
        · omega
        · have := (List.pairwise_cons.1 hpw2).1 d hd; omega
      have hg := hc.1
      unfold Yz1 at hg ⊢
      rw [e]; exact hg
    · rw [hassoc]
      exact Ypq hms hp (by rw [<- hassoc]; exact hr) hc.2 x hx
theorem Y10h : ∀ {x y : Option Nat}, Y1er x y = true -> x = y
 | none, none, _ => rfl
 | some x, some y, h => by rw [Nat.eq_of_beq_eq_true h]
theorem Ynx : ∀ {a b : List Item}, Ygp a -> Ygp b -> Ygp (a ++ b)
 | [], b, _, h => h
 | .asm _ :: a, b, h, k => ⟨h.1, Ynx h.2 k⟩
 | .obl _ :: a, b, h, k => Ynx (a := a) h k
theorem Yqm : ∀ {ds : List Eff}, (∀ d ∈ ds, Ygp d.it) -> Ygp (ds.flatMap (·.it))
 | [], _ => trivial
 | d :: ds, h => by
  rw [List.flatMap_cons]
  exact Ynx (h d List.mem_cons_self) (Yqm fun e he => h e (List.mem_cons_of_mem _ he))
theorem Yl4 (n j : Nat) : Lst (Array.replicate n false) j = false := by
 simp only [Lst, Array.getD_eq_getD_getElem?, Array.getElem?_replicate]
 split <;> rfl
inductive StuckDraw (s : St) (ds : List Eff) : Prop
def fBl (p : Option Nat × List Nat) (k : Option Nat × List Nat -> Prop) : Prop := match p with
 | (d, l) => Yfs Ygt l fun l => k (d, l)
theorem Y19f (p : Option Nat × List Nat) (k : Option Nat × List Nat -> Prop) : fBl p k = k p := by
 cases p; simp [fBl, Yeu Ygf]
def Y17e (P : Program) (ops : Array Oper) (tids : List (Nat × List Nat)) (s : St) (q : List Orc) (k : St -> List Orc -> Prop) : Prop :=
 Yfs Ygt (Yie ops ops.size) fun ms => Yfs fBl (Yrt ops tids (List.range ops.size) s.objs.length) fun bls => fSt (s.grow (Yp8 ops (List.range ops.size))) fun s0 => Ygt s.objs.length fun n0 =>
 Yta P ops ms bls s0 (List.range ops.size) n0 [] [] q fun ds its q =>
  match Yug ops ms bls n0 (n0 + Yp8 ops (List.range ops.size)) ds with
  | true => Y12c its (Yng (fun _ => true) s0 ds fun s => fSt s.shrink fun s => k s q)
  | false => StuckDraw s ds
theorem Y13b (hm : P.follows .mixedOrders = true) {id : Nat} {tids : List (Nat × List Nat)} {s : St} {q : List Orc} {k : St -> List Orc -> Prop} {Q : Exit -> Act -> World -> Prop} {ι : Interp} {a : Act} {w : World}
  (hx : Y17e P ops tids s q k) (h : Rel E s ι a w) (hk : ∀ s' q' ι' a' w', k s' q' -> Rel E s' ι' a' w' -> Q .normal a' w') : (Code.region id ops true).wp P Q a w := by
 unfold Y17e at hx
 rw [Yeu Ygf, Yeu Y19f, Ymi, Ygf] at hx
 obtain ⟨ds, q', hc, hfin⟩ := Ym0 hx
 simp only [List.nil_append] at hc hfin
 split at hfin
 ·rename_i hd
  rw [Ymy, Ymi] at hfin
  simp only [Yug, Bool.and_eq_true, List.all_eq_true, beq_iff_eq] at hd
  obtain ⟨⟨hidx, hpre⟩, hall⟩ := hd
  have hp : ∀ i, ∀ p ∈ Yds ops i, p < i := by
   intro i p hpi
   by_cases hi : i < ops.size
   ·have h1 := hpre i (List.mem_range.2 hi) p hpi
    exact Nat.le_of_ble_eq_true h1
   ·have hn : ops[i]? = none := Array.getElem?_eq_none (Nat.le_of_not_lt hi)
    simp [Yds, hn] at hpi
  have hgood := Ypq (pre := []) rfl hp (by simpa using hidx) hc
  have pl : DPlan P ops (Yie ops ops.size) (Yrt ops tids (List.range ops.size) s.objs.length) (s.grow (Yp8 ops (List.range ops.size))) ds := by
   refine ⟨rfl, by simpa using hgood, hidx, hp, fun d hdm => ?_, fun d hdm x h1 h2 => ?_, fun d hdm e hem hne hnb p hpm => ?_, fun d hdm e hem hu => ?_⟩
   ·obtain ⟨⟨⟨⟨⟨h1, h2⟩, h3⟩, _⟩, _⟩, _⟩ := hall d hdm
    exact ⟨Y10h h1, h2, h3⟩
   ·obtain ⟨⟨⟨_, h4⟩, h5⟩, _⟩ := hall d hdm
    have h4 := Nat.le_of_ble_eq_true h4
    have h5 := Nat.le_of_ble_eq_true h5
    refine ⟨?_, by simp [St.grow]; omega⟩
    rw [Yh9]
    simp [St.obj, List.getElem?_eq_none (show s.objs.length <= x by omega)]
   ·have h6 := ((hall d hdm).2 e hem).1
    simp only [Bool.or_eq_true, List.all_eq_true] at h6
    rcases h6 with h6 | h6
    ·rcases h6 with h6 | h6
     ·exact absurd (Nat.eq_of_beq_eq_true h6) hne
     ·rw [hnb] at h6; cases h6
    ·rcases h6 p hpm with h7 | h7
     ·exact .inl (Nat.le_of_ble_eq_true h7)
     ·exact .inr (Nat.le_of_ble_eq_true h7)
   ·have h6 := ((hall d hdm).2 e hem).2
    rw [hu] at h6
    simpa using h6
  refine wp_region_any hm (Y1d5 pl (E := E) (fun ι a w hr hasm => hk _ _ ι a w (Ypp hfin (Yqm hasm)) (Rel.shrink hr)) ops.size _ ι a _ (by simp) (fun j hj => ?_) ?_ ?_ fun d hd hl => ?_)
  ·rw [Yl4] at hj; cases hj
  ·exact Nat.le_trans List.countP_le_length (by simp)
  ·have hnone : ∀ d ∈ ds, Lst (Array.replicate ops.size false) d.i = false := fun d _ => Yl4 _ _
   rw [Ynp hnone]
   exact (h.grow _).world rfl rfl rfl
  ·exfalso
   rw [Yl4] at hl; cases hl
 ·cases hfin
end
end Go.Proofs.YtclpofblehlojaaGreat.Ab
end
section
namespace Go.Proofs.YtclpofblehlojaaGreat.Ab
open Go
section
variable {P : Program} {E : Ent P} {s : St} {ι : Interp} {a : Act} {w : World}
theorem Ysy (w : World) {b c : Nat} (r q : Array Value) (h : b ≠ c) : (w.setRow b r).setRow c q = (w.setRow c q).setRow b r := by
 unfold World.setRow
 simp only [World.mk.injEq, and_true]
 apply Array.ext_getElem?
 intro i
 simp only [Array.getElem?_modify]
 by_cases h1 : b = i
 ·subst h1; simp [Ne.symm h]
 ·by_cases h2 : c = i
  ·subst h2; simp [h1]
  ·simp [h1, h2]
def Yo5 (P : Program) (s : St) (T : TypeId) (ad x : Operand) : Option (Nat × Nat × List (List Cell)) :=
 match s.ac ad, s.ev x, Yfx P T with
 | some (.eptr j i off), some (.sv v), some n => match s.obj j, Yi7 v with
  | .arr own sz es, some l => (match Nat.beq l.length n && Nat.ble (off + n) sz with
   | true => some (j, i, es)
   | false => none)
  | _, _ => none
 | _, _, _ => none
theorem Yw2 (h : Rel E s ι a w) {T : TypeId} {ad x : Operand} {j i : Nat} {es : List (List Cell)} (e : Yo5 P s T ad x = some (j, i, es)) (hi : i < es.length) :
  ∃ b row, ι.fp j b /\ ∀ w' : World, w'.heap[b]? = w.heap[b]? -> (Instr.storeAt T (a.eval ad) (a.eval x)).run P w' = .ok () (w'.setRow b row) := by
 unfold Yo5 at e
 split at e
 ·rename_i j' i' off v n hc hv hT
  split at e
  ·rename_i own sz es' l hob hl
   split at e
   ·rename_i hb
    simp only [Option.some.injEq, Prod.mk.injEq] at e
    obtain ⟨rfl, rfl, rfl⟩ := e
    simp only [Bool.and_eq_true] at hb
    have h1 := Nat.eq_of_beq_eq_true hb.1
    have h2 := Nat.le_of_ble_eq_true hb.2
    obtain ⟨b, hbk, hp⟩ := (Yef h hc).2 _ _ _ hob
    have hor := h.objs j'
    rw [hob] at hor
    obtain ⟨ty, xs, Fs, k1, k2, k3, _⟩ := hor
    have hcs := Yib hl (Ygi h hv)
    have hlen : (a.eval x).cells.toList.length = n := by rw [<- hcs.length]; exact h1
    have hone : ∀ u ∈ (a.eval x).cells.toList, u.oneCell' = true := by
     intro u hu
     obtain ⟨k, hk⟩ := List.getElem?_of_mem hu
     obtain ⟨c, _, hc⟩ := hcs.flip.get_left hk
     exact hc.2
    rcases k1.2 with ⟨_, hz⟩ | ⟨g, cap, cur, fz, hg, hnz, hheap, hle, _, hsz, _⟩
    ·omega
    ·rw [hg] at hbk
     simp only [Value.ownBlock, Option.some.injEq] at hbk
     subst hbk
     refine ⟨g, (splice (i' * sz + off) (a.eval x).cells.toList cur.toList).toArray, k3 g (by rw [hg]; rfl), fun w' hw' => ?_⟩
     rw [hp]
     refine Yjs hT (hw'.trans hheap) hnz hlen ?_ hone
     have : (i' + 1) * sz <= cap * sz := Nat.mul_le_mul_right sz (by omega)
     rw [Nat.add_mul] at this
     omega
   ·cases e
  ·cases e
 ·cases e
theorem Ykr {o : Oper} {T : TypeId} {ad x : Operand} (ho : o.op = .store T ad x) (hd : o.dst = none) {w' : World} (hr : (Instr.storeAt T (a.eval ad) (a.eval x)).run P w = .ok () w') {K : Act -> World -> Prop} {Q : Exit -> Act -> World -> Prop} :
  o.wp P a w K Q ↔ K a w' := by
 have he : (execOp a.eval o).run P w = .ok .skip w' := by
  simp only [execOp, ho]
  rw [Sem.run_bind, hr]; rfl
 unfold Oper.wp
 rw [he]
 show K (a.put o.dst undef) w' ↔ _
 rw [hd]; rfl
theorem Y123 {α : Type} (x y : Int) (sg : Bool) (c : BoundsCode) {w w1 : World} {v : α} : (runtimePanic (.bounds x y sg c) : Sem α).run P w ≠ .ok v w1 := by
 intro h
 unfold runtimePanic at h
 rw [Sem.run_bind] at h
 cases h
theorem Y15z {α β : Type} {m : Sem β} {f : β -> Sem α} (hf : ∀ b w w1 v, (f b).run P w ≠ .ok v w1) {w w1 : World} {v : α} : (m >>= f).run P w ≠ .ok v w1 := by
 intro h
 rw [Sem.run_bind] at h
 cases hr : m.run P w with
 | ok b w2 => rw [hr] at h; exact hf b w2 w1 v h
 | halt e w2 => rw [hr] at h; cases h
theorem Yxz {α : Type} (kd : IntKind) (x y : Int) (c : BoundsCode) {w w1 : World} {v : α} : (boundsPanic kd x y c : Sem α).run P w ≠ .ok v w1 := by
 unfold boundsPanic
 dsimp only
 split
 ·exact Y15z fun b w w1 v => Y123 _ _ _ _
 ·exact Y15z fun b w w1 v => Y123 _ _ _ _
theorem Y17l {T elem : TypeId} {x i : Value} {v : Value} {w w1 : World} {sz : Nat} (hT : P.underlying T = some (.slice elem)) (hz : Yfx P elem = some sz) (h : (Instr.indexAt T x i).run P w = .ok v w1) : w1 = w /\ ∀ w', (Instr.indexAt T x i).run P w' = .ok v w' := by
 unfold Instr.indexAt at h ⊢
 cases i with
 | int kd n =>
  simp only [asIntOf, Sem.run_bind, Sem.run_pure, Result.andThen_ok, run_underlying hT] at h ⊢
  cases x with
  | slice base len cap =>
   simp only [Sem.run_bind, Sem.run_pure, Result.andThen_ok, run_underlying hT] at h ⊢
   cases base with
   | none => exact absurd h (Yxz _ _ _ _)
   | some b =>
    simp only [Bool.and_false, Bool.false_eq_true, if_false] at h ⊢
    split at h
    ·rename_i hc
     rw [if_pos hc]
     simp only [Sem.run_bind, Yia hz, Result.andThen_ok, Sem.run_pure, Result.ok.injEq] at h ⊢
     obtain ⟨rfl, rfl⟩ := h
     exact ⟨rfl, fun _ => ⟨rfl, trivial⟩⟩
    ·exact absurd h (Yxz _ _ _ _)
  | _ => simp [stuck] at h
 | pointer a => cases a <;> simp [asIntOf, stuck, unsupported] at h
 | _ => simp [asIntOf, stuck] at h
def Ye1 (ops : Array Oper) (p q : Nat) : Array Oper := match ops[q]? with
 | some o => ops.setIfInBounds q { o with after := o.after.push ⟨p, .data⟩ }
 | none => ops
variable {ops : Array Oper} {p q c : Nat}
theorem Yn7 : (Ye1 ops p q).size = ops.size := by unfold Ye1; split <;> simp
theorem Yj4 {i : Nat} (h : i ≠ q) : (Ye1 ops p q)[i]? = ops[i]? := by
 unfold Ye1; split
 ·rw [Array.getElem?_setIfInBounds, if_neg (Ne.symm h)]
 ·rfl
theorem Ynm {o : Oper} (ho : ops[q]? = some o) : (Ye1 ops p q)[q]? = some { o with after := o.after.push ⟨p, .data⟩ } := by
 have hl : q < ops.size := (Array.getElem?_eq_some_iff.1 ho).1
 unfold Ye1; rw [ho]
 simp [hl]
theorem Yj8 {i x : Nat} (h : x ∈ Yds ops i) : x ∈ Yds (Ye1 ops p q) i := by
 by_cases hi : i = q
 ·subst hi
  cases ho : ops[i]? with
  | none => simp [Yds, ho] at h
  | some o =>
   obtain ⟨e, h1, h2, h3⟩ := (Yha ho).1 h
   exact (Yha (Ynm ho)).2 ⟨e, Array.mem_push.2 (.inl h1), h2, h3⟩
 ·unfold Yds at h ⊢; rw [Yj4 hi]; exact h
theorem Yls {listed : Array Bool} {i : Nat} (h : i ∈ Region.ready .any ops listed) (hq : i ≠ q ∨ Lst listed p = true) : i ∈ Region.ready .any (Ye1 ops p q) listed := by
 obtain ⟨h0, o, ho, hall⟩ := mem_ready.1 h
 refine mem_ready.2 ⟨h0, ?_⟩
 by_cases hi : i = q
 ·subst hi
  refine ⟨_, Ynm ho, fun e he hb => ?_⟩
  rcases Array.mem_push.1 he with he | rfl
  ·exact hall e he hb
  ·exact hq.resolve_left (fun h => h rfl)
 ·exact ⟨o, by rw [Yj4 hi]; exact ho, hall⟩
theorem Yv2 (tmps : Array Value) : yielded (Ye1 ops p q) tmps = yielded ops tmps := by
 funext j
 unfold yielded
 by_cases hj : j = q
 ·subst hj
  cases ho : ops[j]? with
  | none =>
   have : (Ye1 ops p j)[j]? = none := by unfold Ye1; rw [ho]; exact ho
   rw [this]
  | some o => rw [Ynm ho]; rfl
 ·rw [Yj4 hj]
theorem Yk9 {Q : Exit -> Act -> World -> Prop} {i : Nat} {K : Act -> World -> Prop} {a : Act} {w : World} : wpOp P (Ye1 ops p q) Q i K a w ↔ wpOp P ops Q i K a w := by
 unfold wpOp
 rw [Yv2]
 by_cases hi : i = q
 ·subst hi
  cases ho : ops[i]? with
  | none =>
   have : (Ye1 ops p i)[i]? = none := by unfold Ye1; rw [ho]; exact ho
   rw [this]
  | some o => rw [Ynm ho]; exact Iff.rfl
 ·rw [Yj4 hi]
theorem Yxr {Q : Exit -> Act -> World -> Prop} {listed : Array Bool} {a : Act} {w : World} (h : Region.ready .any ops listed = []) (hQ : Q .normal a w) : ∀ f, wpAny P .any ops Q f listed a w
 | 0 => ⟨h, hQ⟩
 | f + 1 => ⟨fun _ => hQ, fun i hi => by rw [h] at hi; cases hi⟩
theorem Yr7 {Q : Exit -> Act -> World -> Prop} {listed : Array Bool} {a : Act} {w : World} {i : Nat} {f : Nat} (h : i ∈ Region.ready .any ops listed) (ho : ∀ j ∈ Region.ready .any ops listed, j = i) (hK : wpOp P ops Q i (wpAny P .any ops Q f (listed.setIfInBounds i true)) a w) : wpAny P .any ops Q (f + 1) listed a w := by
 refine And.intro (fun hn => ?_) (fun j hj => ?_)
 ·rw [hn] at h; cases h
 ·have e := ho j hj
  subst e; exact hK
structure Swap (P : Program) (ops : Array Oper) (p q c : Nat) : Prop where
 st : ∃ op oq oc Tp Tq Tc adp xp adq xq xc ic d elem sz, ops[p]? = some op /\ ops[q]? = some oq /\ ops[c]? = some oc /\ op.op = .store Tp adp xp /\ oq.op = .store Tq adq xq /\ oc.op = .indexAddr Tc xc ic /\
  op.dst = none /\ oq.dst = none /\ oc.dst = some d /\ op.guard = none /\ oq.guard = none /\ oc.guard = none /\ adq ≠ .tmp d /\ xq ≠ .tmp d /\ P.underlying Tc = some (.slice elem) /\ Yfx P elem = some sz
 ne : p ≠ q /\ c ≠ q /\ c ≠ p
 rest : ∀ j, j < ops.size -> j ≠ p -> j ≠ q -> j ≠ c -> (mk ops q).testBit j = true
 prc : ∀ x ∈ Yds ops c, x ≠ p /\ x ≠ q /\ x ≠ c
 prp : (∀ x ∈ Yds ops p, x ≠ q /\ x ≠ p) /\ c ∈ Yds ops p
 prq : ∀ x ∈ Yds ops q, x ≠ p /\ x ≠ c
variable {ms : List Nat} {bls : List (Option Nat × List Nat)} {s0 : St} {ds : List Eff}
abbrev FQ : Exit -> Act -> World -> Prop := fun _ _ _ => False
theorem Y12h {i : Nat} {o : Oper} {K : Act -> World -> Prop} (ho : ops[i]? = some o) (hg : o.guard = none) (h : wpOp P ops FQ i K a w) : o.wp P a w K FQ := by
 unfold wpOp at h
 simp only [ho, Region.wanted, hg, if_true] at h
 rcases h with h | ⟨_, _, _, h⟩
 ·exact h
 ·exact h.elim
theorem Ys4 {i : Nat} {o : Oper} {K : Act -> World -> Prop} {Q : Exit -> Act -> World -> Prop} (ho : ops[i]? = some o) (hg : o.guard = none) (h : o.wp P a w K Q) : wpOp P ops Q i K a w := by
 unfold wpOp
 simp only [ho, Region.wanted, hg, if_true]
 exact .inl h
def Yw0 (p q : Nat) (s0 : St) (ds : List Eff) : St := Ye8 (fun j => !(Nat.beq j p) && !(Nat.beq j q)) s0 ds
def Y17s (P : Program) (ops : Array Oper) (p q : Nat) (s : St) : Prop := ∀ op oq Tp Tq adp xp adq xq, ops[p]? = some op -> ops[q]? = some oq -> op.op = .store Tp adp xp -> oq.op = .store Tq adq xq ->
 ∃ j1 i1 es1 j2 i2 es2, Yo5 P s Tp adp xp = some (j1, i1, es1) /\ Yo5 P s Tq adq xq = some (j2, i2, es2) /\ j1 ≠ j2 /\ i1 < es1.length /\ i2 < es2.length
theorem Yyl (hs : Swap P ops p q c) (pl : DPlan P (Ye1 ops p q) ms bls s0 ds) (hside : Y17s P ops p q (Yw0 p q s0 ds)) {Q : Exit -> Act -> World -> Prop}
  (hQ : ∀ ι a w, Rel E (Ye8 (fun _ => true) s0 ds) ι a w -> (∀ d ∈ ds, Ygp d.it) -> Q .normal a w) {listed : Array Bool} {ι : Interp} {a : Act} {w : World} (hsz : listed.size = ops.size)
  (hcl : ∀ j, Lst listed j = true -> ∀ x ∈ Yds (Ye1 ops p q) j, Lst listed x = true) (hl : ∀ j, j < ops.size -> (Lst listed j = true ↔ j ≠ p /\ j ≠ q)) (h : Rel E (Ye8 (Lst listed) s0 ds) ι a w)
  (hasm : ∀ d ∈ ds, Lst listed d.i = true -> Ygp d.it) {op oq : Oper} {Tp Tq : TypeId} {adp xp adq xq : Operand} (hop : ops[p]? = some op) (hoq : ops[q]? = some oq) (hp : op.op = .store Tp adp xp) (hq : oq.op = .store Tq adq xq)
  (hdp : op.dst = none) (hdq : oq.dst = none) (hgp : op.guard = none) (hgq : oq.guard = none) :
  ∃ b1 r1 b2 r2, b1 ≠ b2 /\ (∀ w' : World, w'.heap[b1]? = w.heap[b1]? -> (Instr.storeAt Tp (a.eval adp) (a.eval xp)).run P w' = .ok () (w'.setRow b1 r1)) /\
   (∀ w' : World, w'.heap[b2]? = w.heap[b2]? -> (Instr.storeAt Tq (a.eval adq) (a.eval xq)).run P w' = .ok () (w'.setRow b2 r2)) /\ Q .normal a ((w.setRow b1 r1).setRow b2 r2) := by
 have hpl : p < ops.size := (Array.getElem?_eq_some_iff.1 hop).1
 have hql : q < ops.size := (Array.getElem?_eq_some_iff.1 hoq).1
 have hpq := hs.ne.1
 have hszT : (Ye1 ops p q).size = ops.size := Yn7
 obtain ⟨j1, i1, es1, j2, i2, es2, e1, e2, hj, h1, h2⟩ := hside op oq Tp Tq adp xp adq xq hop hoq hp hq
 have hst : Ye8 (Lst listed) s0 ds = Yw0 p q s0 ds := by
  refine Yhr fun d hd => ?_
  have hdl : d.i < ops.size := by rw [<- hszT]; exact pl.lt hd
  have := hl d.i hdl
  cases hx : Lst listed d.i with
  | true =>
   have h3 := this.1 hx
   have b1 : Nat.beq d.i p = false := by rw [<- Bool.not_eq_true]; exact fun e => h3.1 (Nat.eq_of_beq_eq_true e)
   have b2 : Nat.beq d.i q = false := by rw [<- Bool.not_eq_true]; exact fun e => h3.2 (Nat.eq_of_beq_eq_true e)
   simp [b1, b2]
  | false =>
   by_cases k1 : d.i = p
   ·rw [k1]; simp [Nat.beq_refl]
   ·by_cases k2 : d.i = q
    ·rw [k2]; simp [Nat.beq_refl]
    ·exact absurd (this.2 ⟨k1, k2⟩) (by rw [hx]; decide)
 have h' := h
 rw [hst] at h'
 obtain ⟨b1, r1, f1, g1⟩ := Yw2 h' e1 h1
 obtain ⟨b2, r2, f2, g2⟩ := Yw2 h' e2 h2
 have hb : b1 ≠ b2 := fun e => h'.disj j1 j2 b1 hj f1 (by rw [e]; exact f2)
 have hnp : Lst listed p = false := by rw [<- Bool.not_eq_true]; exact fun e => ((hl p hpl).1 e).1 rfl
 have hnq : Lst listed q = false := by rw [<- Bool.not_eq_true]; exact fun e => ((hl q hql).1 e).2 rfl
 have hunl : ∀ {L : Array Bool} {j : Nat}, L.size = ops.size -> j < ops.size -> Lst L j = false -> L.getD j true = false := by
  intro L j hL hj hf
  simp only [Lst, Array.getD_eq_getD_getElem?] at hf ⊢
  rw [Array.getElem?_eq_getElem (by omega)] at hf ⊢
  exact hf
 have hrp : p ∈ Region.ready .any (Ye1 ops p q) listed := by
  refine mem_ready.2 ⟨hunl hsz hpl hnp, op, by rw [Yj4 hpq]; exact hop, fun e he hb => ?_⟩
  have hm : e.on ∈ Yds ops p := (Yha hop).2 ⟨e, he, hb, rfl⟩
  have hx := hs.prp.1 _ hm
  have hm' := pl.pre p e.on (Yj8 hm)
  exact (hl e.on (by omega)).2 ⟨hx.2, hx.1⟩
 have s1 := Yli pl (Q := FQ) hrp (by rw [hszT]; exact hsz) hcl h (K := fun a1 w1 => ∃ ι1, Rel E (Ye8 (Lst (listed.setIfInBounds p true)) s0 ds) ι1 a1 w1 /\ ∀ d ∈ ds, d.i = p -> Ygp d.it) (fun ι1 a1 w1 k1 k2 => ⟨ι1, k1, k2⟩)
 obtain ⟨ι1, k1, k2⟩ := (Ykr hp hdp (g1 w rfl)).1 (Y12h hop hgp (Yk9.1 s1))
 have hset := fun j => Yhi (listed := listed) (i := p) (by omega) j
 have hsz1 : (listed.setIfInBounds p true).size = ops.size := by simpa using hsz
 have hcl1 : ∀ j, Lst (listed.setIfInBounds p true) j = true -> ∀ x ∈ Yds (Ye1 ops p q) j, Lst (listed.setIfInBounds p true) x = true := by
  intro j hj x hx
  rw [hset, Bool.or_eq_true] at hj ⊢
  right
  rcases hj with hj | hj
  ·have := Nat.eq_of_beq_eq_true hj
   subst this
   exact (Yfb hrp (by rw [hszT]; exact hsz)).2.2 x hx
  ·exact hcl j hj x hx
 have hrq : q ∈ Region.ready .any (Ye1 ops p q) (listed.setIfInBounds p true) := by
  refine Yls (mem_ready.2 ⟨hunl hsz1 hql (by rw [hset, hnq, Bool.or_false, <- Bool.not_eq_true]; exact fun e => hpq (Nat.eq_of_beq_eq_true e).symm), oq, hoq, fun e he hb => ?_⟩) (.inr (by rw [hset]; simp [Nat.beq_refl]))
  have hm : e.on ∈ Yds ops q := (Yha hoq).2 ⟨e, he, hb, rfl⟩
  have hm' := pl.pre q e.on (Yj8 hm)
  have : Lst (listed.setIfInBounds p true) e.on = true := by
   rw [hset, Bool.or_eq_true]
   exact .inr ((hl e.on (by omega)).2 ⟨(hs.prq _ hm).1, by omega⟩)
  exact this
 have s2 := Yli pl (Q := FQ) hrq (by rw [hszT]; exact hsz1) hcl1 k1 (K := fun a2 w2 => ∃ ι2, Rel E (Ye8 (Lst ((listed.setIfInBounds p true).setIfInBounds q true)) s0 ds) ι2 a2 w2 /\ ∀ d ∈ ds, d.i = q -> Ygp d.it) (fun ι2 a2 w2 k1 k2 => ⟨ι2, k1, k2⟩)
 have hw1 : (w.setRow b1 r1).heap[b2]? = w.heap[b2]? := setRow_other w b1 b2 r1 (Ne.symm hb)
 obtain ⟨ι2, m1, m2⟩ := (Ykr hq hdq (g2 _ hw1)).1 (Y12h hoq hgq (Yk9.1 s2))
 refine ⟨b1, r1, b2, r2, hb, g1, g2, hQ ι2 a _ ?_ fun d hd => ?_⟩
 ·rw [Yhr (g := fun _ => true) fun d hd => ?_] at m1
  ·exact m1
  ·have hdl : d.i < ops.size := by rw [<- hszT]; exact pl.lt hd
   rw [Yhi (by omega), Yhi (by omega)]
   by_cases c1 : d.i = q
   ·rw [c1]; simp [Nat.beq_refl]
   ·by_cases c2 : d.i = p
    ·rw [c2]; simp [Nat.beq_refl]
    ·simp [(hl d.i hdl).2 ⟨c2, c1⟩]
 ·have hdl : d.i < ops.size := by rw [<- hszT]; exact pl.lt hd
  by_cases c1 : d.i = q
  ·exact m2 d hd c1
  ·by_cases c2 : d.i = p
   ·exact k2 d hd c2
   ·exact hasm d hd ((hl d.i hdl).2 ⟨c2, c1⟩)
theorem Ymh {i j : Nat} (h : i ≠ j) : Nat.beq i j = false := by rw [<- Bool.not_eq_true]; exact fun e => h (Nat.eq_of_beq_eq_true e)
theorem Yow {listed : Array Bool} {i : Nat} {o : Oper} (hsz : listed.size = ops.size) (ho : ops[i]? = some o) (hn : Lst listed i = false) (hp : ∀ x ∈ Yds ops i, Lst listed x = true) : i ∈ Region.ready .any ops listed := by
 have hi : i < ops.size := (Array.getElem?_eq_some_iff.1 ho).1
 refine mem_ready.2 ⟨?_, o, ho, fun e he hb => hp e.on ((Yha ho).2 ⟨e, he, hb, rfl⟩)⟩
 simp only [Lst, Array.getD_eq_getD_getElem?] at hn ⊢
 rw [Array.getElem?_eq_getElem (by omega)] at hn ⊢
 exact hn
theorem Yvc {f : Nat -> Bool} {n i j : Nat} (hi : i < n) (hj : j < n) (hij : i ≠ j) (h1 : f i = true) (h2 : f j = true) : 2 <= (List.range n).countP f := by
 have h3 := Yjq (p := f) (q := fun x => f x && !(Nat.beq x i)) (i := i) (l := List.range n) (List.mem_range.2 hi) h1 (by simp [Nat.beq_refl]) (fun x hx => by simp at hx; exact hx.1)
 have h4 := Yjq (p := fun x => f x && !(Nat.beq x i)) (q := fun x => f x && !(Nat.beq x i) && !(Nat.beq x j)) (i := j) (l := List.range n) (List.mem_range.2 hj) (by simp [h2, Ymh (Ne.symm hij)]) (by simp [Nat.beq_refl]) (fun x hx => by simp at hx; simp [hx.1])
 omega
theorem Y1dw (hs : Swap P ops p q c) (pl : DPlan P (Ye1 ops p q) ms bls s0 ds) (hside : Y17s P ops p q (Yw0 p q s0 ds)) {Q : Exit -> Act -> World -> Prop}
  (hQ : ∀ ι a w, Rel E (Ye8 (fun _ => true) s0 ds) ι a w -> (∀ d ∈ ds, Ygp d.it) -> Q .normal a w) :
  ∀ (fuel : Nat) (listed : Array Bool) (ι : Interp) (a : Act) (w : World), listed.size = ops.size -> (∀ j, Lst listed j = true -> ∀ x ∈ Yds (Ye1 ops p q) j, Lst listed x = true) ->
   (List.range ops.size).countP (fun j => !Lst listed j) <= fuel -> Rel E (Ye8 (Lst listed) s0 ds) ι a w -> (∀ d ∈ ds, Lst listed d.i = true -> Ygp d.it) -> wpAny P .any ops Q fuel listed a w := by
 intro fuel
 have hszT : (Ye1 ops p q).size = ops.size := Yn7
 have hpre : ∀ i, ∀ x ∈ Yds ops i, x < i := fun i x hx => pl.pre i x (Yj8 hx)
 have hend : ∀ (listed : Array Bool) (ι : Interp) (a : Act) (w : World), listed.size = ops.size -> Rel E (Ye8 (Lst listed) s0 ds) ι a w -> (∀ d ∈ ds, Lst listed d.i = true -> Ygp d.it) ->
   Region.ready .any ops listed = [] -> Q .normal a w := by
  intro listed ι a w hsz h hasm hnil
  have hall : ∀ d ∈ ds, Lst listed d.i = true := fun d hd => Yqt hnil hsz hpre (d.i + 1) d.i (by omega) (by rw [<- hszT]; exact pl.lt hd)
  refine hQ ι a w ?_ fun d hd => hasm d hd (hall d hd)
  rw [Yhr (g := fun _ => true) hall] at h
  exact h
 induction fuel with
 | zero =>
  intro listed ι a w hsz hcl hun h hasm
  have hnil : Region.ready .any ops listed = [] := by
   cases hr : Region.ready .any ops listed with
   | nil => rfl
   | cons i l =>
    exfalso
    obtain ⟨h1, h2, _⟩ := Yfb (ops := ops) (i := i) (by rw [hr]; exact List.mem_cons_self) hsz
    have h0 : (List.range ops.size).countP (fun j => !Lst listed j) = 0 := Nat.le_zero.1 hun
    have := List.countP_eq_zero.1 h0 i (List.mem_range.2 h2)
    simp [h1] at this
  exact ⟨hnil, hend listed ι a w hsz h hasm hnil⟩
 | succ fuel ih =>
  intro listed ι a w hsz hcl hun h hasm
  refine ⟨hend listed ι a w hsz h hasm, fun i hi => ?_⟩
  obtain ⟨hni, hlt, hprd⟩ := Yfb hi hsz
  by_cases hbad : i = q /\ Lst listed p = false
  ·
   obtain ⟨rfl, hnp⟩ := hbad
   obtain ⟨op, oq, oc, Tp, Tq, Tc, adp, xp, adq, xq, xc, ic, d, elem, sz, hop, hoq, hoc, hp, hq, hc, hdp, hdq, hdc, hgp, hgq, hgc, hn1, hn2, hT, hz⟩ := hs.st
   obtain ⟨hpq, hcq, hcp⟩ := hs.ne
   have hpl : p < ops.size := (Array.getElem?_eq_some_iff.1 hop).1
   have hcL : c < ops.size := (Array.getElem?_eq_some_iff.1 hoc).1
   have hclO : ∀ j, Lst listed j = true -> ∀ x ∈ Yds ops j, Lst listed x = true := fun j hj x hx => hcl j hj x (Yj8 hx)
   have hrest : ∀ j, j < ops.size -> j ≠ p -> j ≠ i -> j ≠ c -> Lst listed j = true := fun j hj h1 h2 h3 =>
    Yni (L := fun j => Lst listed j = true) hclO (i + 1) i j (by omega) hprd (hs.rest j hj h1 h2 h3)
   have hset := fun j => Yhi (listed := listed) (i := i) (by omega) j
   have hsz2 : (listed.setIfInBounds i true).size = ops.size := by simpa using hsz
   have hfuel : 2 <= fuel + 1 := Nat.le_trans (Yvc hpl hlt hpq (by simp [hnp]) (by simp [hni])) hun
   refine Ys4 hoq hgq ?_
   cases hlc : Lst listed c with
   | true =>
    have hl : ∀ j, j < ops.size -> (Lst listed j = true ↔ j ≠ p /\ j ≠ i) := fun j hj => by
     constructor
     ·intro e; exact ⟨fun e2 => (by rw [e2, hnp] at e; cases e), fun e2 => (by rw [e2, hni] at e; cases e)⟩
     ·rintro ⟨h1, h2⟩
      by_cases h3 : j = c
      ·rw [h3]; exact hlc
      ·exact hrest j hj h1 h2 h3
    obtain ⟨b1, r1, b2, r2, hb, g1, g2, hfin⟩ := Yyl hs pl hside hQ hsz hcl hl h hasm hop hoq hp hq hdp hdq hgp hgq
    refine (Ykr hq hdq (g2 w rfl)).2 ?_
    obtain ⟨f, rfl⟩ : ∃ f, fuel = f + 1 := ⟨fuel - 1, by omega⟩
    have hprp : ∀ x ∈ Yds ops p, Lst (listed.setIfInBounds i true) x = true := fun x hx => by
     have h1 := hs.prp.1 x hx
     rw [hset, Bool.or_eq_true]
     exact .inr ((hl x (by have := hpre p x hx; omega)).2 ⟨h1.2, h1.1⟩)
    refine Yr7 (i := p) (Yow hsz2 hop (by rw [hset, hnp, Ymh hpq]; rfl) hprp) (fun j hj => ?_) ?_
    ·obtain ⟨k1, k2, _⟩ := Yfb hj hsz2
     rw [hset, Bool.or_eq_false_iff] at k1
     by_cases hjp : j = p
     ·exact hjp
     ·exfalso
      have hji : j ≠ i := fun e => by rw [e, Nat.beq_refl] at k1; cases k1.1
      have := (hl j k2).2 ⟨hjp, hji⟩
      rw [this] at k1; cases k1.2
    ·refine Ys4 hop hgp ((Ykr hp hdp (g1 _ (setRow_other w b2 b1 r2 hb))).2 ?_)
     refine Yxr ?_ (by rw [Ysy w r2 r1 (Ne.symm hb)]; exact hfin) f
     cases hr : Region.ready .any ops ((listed.setIfInBounds i true).setIfInBounds p true) with
     | nil => rfl
     | cons j l =>
      exfalso
      obtain ⟨k1, k2, _⟩ := Yfb (ops := ops) (i := j) (by rw [hr]; exact List.mem_cons_self) (by simpa using hsz2)
      rw [Yhi (by omega), hset, Bool.or_eq_false_iff, Bool.or_eq_false_iff] at k1
      have hjp : j ≠ p := fun e => by rw [e, Nat.beq_refl] at k1; cases k1.1
      have hji : j ≠ i := fun e => by rw [e, Nat.beq_refl] at k1; cases k1.2.1
      have := (hl j k2).2 ⟨hjp, hji⟩
      rw [this] at k1; cases k1.2.2
   | false =>
    have hprc : ∀ x ∈ Yds ops c, Lst listed x = true := fun x hx => by
     have h1 := hs.prc x hx
     exact hrest x (by have := hpre c x hx; omega) h1.1 h1.2.1 h1.2.2
    have hrc : c ∈ Region.ready .any (Ye1 ops p i) listed := Yls (Yow hsz hoc hlc hprc) (.inl hcq)
    have s1 := Yli pl (Q := FQ) hrc (by rw [hszT]; exact hsz) hcl h (K := fun a1 w1 => ∃ ι1, Rel E (Ye8 (Lst (listed.setIfInBounds c true)) s0 ds) ι1 a1 w1 /\ ∀ d ∈ ds, d.i = c -> Ygp d.it) (fun ι1 a1 w1 k1 k2 => ⟨ι1, k1, k2⟩)
    have s2 := Y12h hoc hgc (Yk9.1 s1)
    unfold Oper.wp at s2
    have hex : ∀ w', (execOp a.eval oc).run P w' = (do pure (Next.value (<- Instr.indexAt Tc (a.eval xc) (a.eval ic))) : Sem Next).run P w' := fun w' => by simp only [execOp, hc]
    rw [hex, Sem.run_bind] at s2
    cases hix : (Instr.indexAt Tc (a.eval xc) (a.eval ic)).run P w with
    | halt e w1 =>
     exfalso
     rw [hix] at s2
     cases e <;> exact s2
    | ok v w1 =>
     rw [hix] at s2
     obtain ⟨rfl, hall⟩ := Y17l hT hz hix
     have s3 : ∃ ι1, Rel E (Ye8 (Lst (listed.setIfInBounds c true)) s0 ds) ι1 (a.put oc.dst v) w1 /\ ∀ d ∈ ds, d.i = c -> Ygp d.it := s2
     obtain ⟨ι1, k1, k2⟩ := s3
     have hsetc := fun j => Yhi (listed := listed) (i := c) (by omega) j
     have hszc : (listed.setIfInBounds c true).size = ops.size := by simpa using hsz
     have hl : ∀ j, j < ops.size -> (Lst (listed.setIfInBounds c true) j = true ↔ j ≠ p /\ j ≠ i) := fun j hj => by
      rw [hsetc, Bool.or_eq_true]
      constructor
      ·rintro (e | e)
       ·have := Nat.eq_of_beq_eq_true e
        exact ⟨by omega, by omega⟩
       ·exact ⟨fun e2 => (by rw [e2, hnp] at e; cases e), fun e2 => (by rw [e2, hni] at e; cases e)⟩
      ·rintro ⟨h1, h2⟩
       by_cases h3 : j = c
       ·exact .inl (by rw [h3, Nat.beq_refl])
       ·exact .inr (hrest j hj h1 h2 h3)
     have hclc : ∀ j, Lst (listed.setIfInBounds c true) j = true -> ∀ x ∈ Yds (Ye1 ops p i) j, Lst (listed.setIfInBounds c true) x = true := by
      intro j hj x hx
      rw [hsetc, Bool.or_eq_true] at hj ⊢
      right
      rcases hj with hj | hj
      ·have := Nat.eq_of_beq_eq_true hj
       subst this
       exact (Yfb hrc (by rw [hszT]; exact hsz)).2.2 x hx
      ·exact hcl j hj x hx
     obtain ⟨b1, r1, b2, r2, hb, g1, g2, hfin⟩ := Yyl hs pl hside hQ hszc hclc hl k1 (fun d hd hdl => by
       rw [hsetc, Bool.or_eq_true] at hdl
       rcases hdl with e | e
       ·exact k2 d hd (Nat.eq_of_beq_eq_true e)
       ·exact hasm d hd e) hop hoq hp hq hdp hdq hgp hgq
     have hput : ∀ y : Operand, y ≠ .tmp d -> (a.put oc.dst v).eval y = a.eval y := fun y hy => Act.eval_put fun d' hd' => by
      rw [hdc] at hd'; cases hd'; exact hy
     rw [hput adq hn1, hput xq hn2] at g2
     refine (Ykr hq hdq (g2 w1 rfl)).2 ?_
     obtain ⟨f, rfl⟩ : ∃ f, fuel = f + 1 := ⟨fuel - 1, by omega⟩
     refine Yr7 (i := c) (Yow hsz2 hoc (by rw [hset, hlc, Ymh hcq]; rfl) fun x hx => by rw [hset, Bool.or_eq_true]; exact .inr (hprc x hx)) (fun j hj => ?_) ?_
     ·obtain ⟨m1, m2, m3⟩ := Yfb hj hsz2
      rw [hset, Bool.or_eq_false_iff] at m1
      by_cases hjc : j = c
      ·exact hjc
      ·exfalso
       have hji : j ≠ i := fun e => by rw [e, Nat.beq_refl] at m1; cases m1.1
       by_cases hjp : j = p
       ·have := m3 c (by rw [hjp]; exact hs.prp.2)
        rw [hset, Bool.or_eq_true] at this
        rcases this with e | e
        ·exact hcq (Nat.eq_of_beq_eq_true e)
        ·rw [hlc] at e; cases e
       ·have := hrest j m2 hjp hji hjc
        rw [this] at m1; cases m1.2
     ·have hexv : (execOp a.eval oc).run P (w1.setRow b2 r2) = .ok (.value v) (w1.setRow b2 r2) := by
       rw [hex, Sem.run_bind, hall]; rfl
      refine Ys4 hoc hgc ?_
      unfold Oper.wp
      rw [hexv]
      show wpAny P .any ops Q f _ (a.put oc.dst v) (w1.setRow b2 r2)
      have hsz3 : ((listed.setIfInBounds i true).setIfInBounds c true).size = ops.size := by simpa using hsz
      have hset3 : ∀ j, Lst ((listed.setIfInBounds i true).setIfInBounds c true) j = (Nat.beq j c || (Nat.beq j i || Lst listed j)) := fun j => by rw [Yhi (by omega), hset]
      have h3 : 3 <= f + 1 + 1 := by
       have h4 := Yjq (p := fun j => !Lst listed j) (q := fun j => !Lst listed j && !(Nat.beq j c)) (i := c) (l := List.range ops.size) (List.mem_range.2 hcL) (by simp [hlc]) (by simp [Nat.beq_refl]) (fun x hx => by simp at hx; simp [hx.1])
       have h5 := Yvc (f := fun j => !Lst listed j && !(Nat.beq j c)) hpl hlt hpq (by simp [hnp, Ymh (Ne.symm hcp)]) (by simp [hni, Ymh (Ne.symm hcq)])
       omega
      obtain ⟨f', rfl⟩ : ∃ f', f = f' + 1 := ⟨f - 1, by omega⟩
      refine Yr7 (i := p) (Yow hsz3 hop (by rw [hset3, hnp, Ymh (Ne.symm hcp), Ymh hpq]; rfl) fun x hx => ?_) (fun j hj => ?_) ?_
      ·have h1 := hs.prp.1 x hx
       rw [hset3, Bool.or_eq_true, Bool.or_eq_true]
       by_cases hxc : x = c
       ·exact .inl (by rw [hxc, Nat.beq_refl])
       ·exact .inr (.inr (hrest x (by have := hpre p x hx; omega) h1.2 h1.1 hxc))
      ·obtain ⟨m1, m2, _⟩ := Yfb hj hsz3
       rw [hset3, Bool.or_eq_false_iff, Bool.or_eq_false_iff] at m1
       by_cases hjp : j = p
       ·exact hjp
       ·exfalso
        have hjc : j ≠ c := fun e => by rw [e, Nat.beq_refl] at m1; cases m1.1
        have hji : j ≠ i := fun e => by rw [e, Nat.beq_refl] at m1; cases m1.2.1
        have := hrest j m2 hjp hji hjc
        rw [this] at m1; cases m1.2.2
      ·refine Ys4 hop hgp ((Ykr hp hdp (g1 _ (setRow_other w1 b2 b1 r2 hb))).2 ?_)
       refine Yxr ?_ (by rw [Ysy w1 r2 r1 (Ne.symm hb)]; exact hfin) f'
       cases hr : Region.ready .any ops (((listed.setIfInBounds i true).setIfInBounds c true).setIfInBounds p true) with
       | nil => rfl
       | cons j l =>
        exfalso
        obtain ⟨m1, m2, _⟩ := Yfb (ops := ops) (i := j) (by rw [hr]; exact List.mem_cons_self) (by simpa using hsz)
        rw [Yhi (by omega), hset3, Bool.or_eq_false_iff, Bool.or_eq_false_iff, Bool.or_eq_false_iff] at m1
        have hjp : j ≠ p := fun e => by rw [e, Nat.beq_refl] at m1; cases m1.1
        have hjc : j ≠ c := fun e => by rw [e, Nat.beq_refl] at m1; cases m1.2.1
        have hji : j ≠ i := fun e => by rw [e, Nat.beq_refl] at m1; cases m1.2.2.1
        have := hrest j m2 hjp hji hjc
        rw [this] at m1; cases m1.2.2.2
  ·have hgood : i ≠ q ∨ Lst listed p = true := by
    by_cases h1 : i = q
    ·right
     cases h2 : Lst listed p with
     | true => rfl
     | false => exact absurd ⟨h1, h2⟩ hbad
    ·exact .inl h1
   have hi' := Yls hi hgood
   have hset := fun j => Yhi (listed := listed) (i := i) (by omega) j
   refine Yk9.1 (Yli pl hi' (by rw [hszT]; exact hsz) hcl h fun ι' a' w' hr' hasm' => ih _ ι' a' w' (by simpa using hsz) (fun j hj x hx => ?_) ?_ hr' fun d hd hdl => ?_)
   ·rw [hset, Bool.or_eq_true] at hj ⊢
    right
    rcases hj with hj | hj
    ·have := Nat.eq_of_beq_eq_true hj
     subst this
     exact (Yfb hi' (by rw [hszT]; exact hsz)).2.2 x hx
    ·exact hcl j hj x hx
   ·have : (List.range ops.size).countP (fun j => !Lst (listed.setIfInBounds i true) j) < (List.range ops.size).countP (fun j => !Lst listed j) := by
     refine Yjq (i := i) (List.mem_range.2 hlt) (by simp [hni]) (by rw [hset]; simp) fun j hj => ?_
     rw [hset] at hj
     simp only [Bool.not_eq_true', Bool.or_eq_false_iff] at hj ⊢
     exact hj.2
    omega
   ·rw [hset, Bool.or_eq_true] at hdl
    rcases hdl with hdl | hdl
    ·exact hasm' d hd (Nat.eq_of_beq_eq_true hdl)
    ·exact hasm d hd hdl
end
end Go.Proofs.YtclpofblehlojaaGreat.Ab
end
section
namespace Go.Proofs.YtclpofblehlojaaGreat.Ab
open Go
def Y16o (x : Operand) (d : Nat) : Bool := match x with | .tmp t => !(Nat.beq t d) | _ => true
theorem Y15p {x : Operand} {d : Nat} (h : Y16o x d = true) : x ≠ .tmp d := by
 rintro rfl
 simp [Y16o] at h
def Y15f (P : Program) (op oq oc : Oper) : Bool := match op.op, oq.op, oc.op with
 | .store _ _ _, .store _ adq xq, .indexAddr Tc _ _ => (match op.dst, oq.dst, oc.dst with
  | none, none, some d => (match op.guard, oq.guard, oc.guard with
   | none, none, none => Y16o adq d && Y16o xq d && (match P.underlying Tc with
    | some (.slice elem) => (match Yfx P elem with | some _ => true | none => false)
    | _ => false)
   | _, _, _ => false)
  | _, _, _ => false)
 | _, _, _ => false
def Y17h (P : Program) (ops : Array Oper) (p q c : Nat) : Bool := match ops[p]?, ops[q]?, ops[c]? with
 | some op, some oq, some oc => Y15f P op oq oc && (!(Nat.beq p q) && !(Nat.beq c q) && !(Nat.beq c p)) &&
  (List.range ops.size).all (fun j => Nat.beq j p || Nat.beq j q || Nat.beq j c || ((Yie ops ops.size).getD q 0).testBit j) &&
  (Yds ops c).all (fun x => !(Nat.beq x p) && !(Nat.beq x q) && !(Nat.beq x c)) &&
  ((Yds ops p).all (fun x => !(Nat.beq x q) && !(Nat.beq x p)) && (Yds ops p).any (Nat.beq c)) &&
  (Yds ops q).all (fun x => !(Nat.beq x p) && !(Nat.beq x c))
 | _, _, _ => false
theorem Ymv {x y : Nat} (h : Nat.beq x y = false) : x ≠ y := Nat.ne_of_beq_eq_false h
theorem Y1e2 {P : Program} {ops : Array Oper} {p q c : Nat} (h : Y17h P ops p q c = true) : Swap P ops p q c := by
 unfold Y17h at h
 split at h
 ·rename_i op oq oc hop hoq hoc
  simp only [Bool.and_eq_true, Bool.not_eq_true', List.all_eq_true, List.any_eq_true, Bool.or_eq_true] at h
  obtain ⟨⟨⟨⟨⟨h1, ⟨h2, h3⟩, h4⟩, h5⟩, h6⟩, h7, h8⟩, h9⟩ := h
  refine ⟨?_, ⟨Ymv h2, Ymv h3, Ymv h4⟩, fun j hj e1 e2 e3 => ?_, fun x hx => ?_, ⟨fun x hx => ?_, ?_⟩, fun x hx => ?_⟩
  ·unfold Y15f at h1
   split at h1
   ·rename_i Tp adp xp Tq adq xq Tc xc ic ep eq ec
    split at h1
    ·rename_i d dp dq dc
     split at h1
     ·rename_i gp gq gc
      simp only [Bool.and_eq_true] at h1
      obtain ⟨⟨k1, k2⟩, k3⟩ := h1
      split at k3
      ·rename_i elem hu
       split at k3
       ·rename_i sz hz
        exact ⟨op, oq, oc, Tp, Tq, Tc, adp, xp, adq, xq, xc, ic, d, elem, sz, hop, hoq, hoc, ep, eq, ec, dp, dq, dc, gp, gq, gc, Y15p k1, Y15p k2, hu, hz⟩
       ·cases k3
      ·cases k3
     ·cases h1
    ·cases h1
   ·cases h1
  ·have hql : q < ops.size := (Array.getElem?_eq_some_iff.1 hoq).1
   rcases h5 j (List.mem_range.2 hj) with ((h | h) | h) | h
   ·exact absurd (Nat.eq_of_beq_eq_true h) e1
   ·exact absurd (Nat.eq_of_beq_eq_true h) e2
   ·exact absurd (Nat.eq_of_beq_eq_true h) e3
   ·rwa [Yjo ops _ _ hql] at h
  ·obtain ⟨⟨a, b⟩, d⟩ := h6 x hx
   exact ⟨Ymv a, Ymv b, Ymv d⟩
  ·obtain ⟨a, b⟩ := h7 x hx
   exact ⟨Ymv a, Ymv b⟩
  ·obtain ⟨x, hx, e⟩ := h8
   rw [Nat.eq_of_beq_eq_true e]; exact hx
  ·obtain ⟨a, b⟩ := h9 x hx
   exact ⟨Ymv a, Ymv b⟩
 ·cases h
inductive StuckReg (s : St) (ops : Array Oper) : Prop
inductive StuckSide (s : St) (p q : Nat) : Prop
def Yzf (P : Program) (ops : Array Oper) (p q : Nat) (s : St) (K : Prop) : Prop := match ops[p]?, ops[q]? with
 | some op, some oq => (match op.op, oq.op with
  | .store Tp adp xp, .store Tq adq xq => (match Yo5 P s Tp adp xp, Yo5 P s Tq adq xq with
   | some (j1, i1, es1), some (j2, i2, es2) => (match Nat.beq j1 j2 with
    | false => i1 < es1.length /\ i2 < es2.length /\ K
    | true => StuckSide s p q)
   | _, _ => StuckSide s p q)
  | _, _ => StuckSide s p q)
 | _, _ => StuckSide s p q
theorem Y192 {P : Program} {ops : Array Oper} {p q : Nat} {s : St} {K : Prop} (h : Yzf P ops p q s K) : Y17s P ops p q s /\ K := by
 unfold Yzf at h
 split at h
 ·rename_i op oq hop hoq
  split at h
  ·rename_i Tp adp xp Tq adq xq ep eq
   split at h
   ·rename_i j1 i1 es1 j2 i2 es2 e1 e2
    split at h
    ·rename_i hb
     obtain ⟨h1, h2, hK⟩ := h
     refine ⟨fun op' oq' Tp' Tq' adp' xp' adq' xq' g1 g2 g3 g4 => ?_, hK⟩
     rw [hop] at g1; rw [hoq] at g2
     simp only [Option.some.injEq] at g1 g2
     subst g1; subst g2
     rw [ep] at g3; rw [eq] at g4
     simp only [Op.store.injEq] at g3 g4
     obtain ⟨rfl, rfl, rfl⟩ := g3
     obtain ⟨rfl, rfl, rfl⟩ := g4
     exact ⟨j1, i1, es1, j2, i2, es2, e1, e2, Ymv hb, h1, h2⟩
    ·cases h
   ·cases h
  ·cases h
 ·cases h
def Y11b (P : Program) (ops0 : Array Oper) (p q c : Nat) (tids : List (Nat × List Nat)) (s : St) (qs : List Orc) (k : St -> List Orc -> Prop) : Prop :=
 match Y17h P ops0 p q c with
 | false => StuckSide s p q
 | true => match Ye1 ops0 p q with
  | ops => Yfs Ygt (Yie ops ops.size) fun ms => Yfs fBl (Yrt ops tids (List.range ops.size) s.objs.length) fun bls => fSt (s.grow (Yp8 ops (List.range ops.size))) fun s0 => Ygt s.objs.length fun n0 =>
   Yta P ops ms bls s0 (List.range ops.size) n0 [] [] qs fun ds its qs =>
    match Yug ops ms bls n0 (n0 + Yp8 ops (List.range ops.size)) ds with
    | true => Yzf P ops0 p q (Yw0 p q s0 ds) (Y12c its (Yng (fun _ => true) s0 ds fun s => fSt s.shrink fun s => k s qs))
    | false => StuckDraw s ds
section
variable {P : Program} {E : Ent P} {ops : Array Oper}
theorem Y105 (hm : P.follows .mixedOrders = true) {id p q c : Nat} {tids : List (Nat × List Nat)} {s : St} {qs : List Orc} {k : St -> List Orc -> Prop} {Q : Exit -> Act -> World -> Prop} {ι : Interp} {a : Act} {w : World}
  (hx : Y11b P ops p q c tids s qs k) (h : Rel E s ι a w) (hk : ∀ s' q' ι' a' w', k s' q' -> Rel E s' ι' a' w' -> Q .normal a' w') : (Code.region id ops true).wp P Q a w := by
 unfold Y11b at hx
 split at hx
 ·cases hx
 ·rename_i hsw
  have hs := Y1e2 hsw
  have hszT : (Ye1 ops p q).size = ops.size := Yn7
  dsimp only at hx
  rw [Yeu Ygf, Yeu Y19f, Ymi, Ygf] at hx
  obtain ⟨ds, q', hc, hfin⟩ := Ym0 hx
  simp only [List.nil_append] at hc hfin
  split at hfin
  ·rename_i hd
   obtain ⟨hside, hfin⟩ := Y192 hfin
   rw [Ymy, Ymi] at hfin
   simp only [Yug, Bool.and_eq_true, List.all_eq_true, beq_iff_eq] at hd
   obtain ⟨⟨hidx, hpre⟩, hall⟩ := hd
   have hp : ∀ i, ∀ x ∈ Yds (Ye1 ops p q) i, x < i := by
    intro i x hpi
    by_cases hi : i < (Ye1 ops p q).size
    ·have h1 := hpre i (List.mem_range.2 hi) x hpi
     exact Nat.le_of_ble_eq_true h1
    ·have hn : (Ye1 ops p q)[i]? = none := Array.getElem?_eq_none (Nat.le_of_not_lt hi)
     simp [Yds, hn] at hpi
   have hgood := Ypq (pre := []) rfl hp (by simpa using hidx) hc
   have pl : DPlan P (Ye1 ops p q) (Yie (Ye1 ops p q) (Ye1 ops p q).size) (Yrt (Ye1 ops p q) tids (List.range (Ye1 ops p q).size) s.objs.length) (s.grow (Yp8 (Ye1 ops p q) (List.range (Ye1 ops p q).size))) ds := by
    refine ⟨rfl, by simpa using hgood, hidx, hp, fun d hdm => ?_, fun d hdm x h1 h2 => ?_, fun d hdm e hem hne hnb p hpm => ?_, fun d hdm e hem hu => ?_⟩
    ·obtain ⟨⟨⟨⟨⟨h1, h2⟩, h3⟩, _⟩, _⟩, _⟩ := hall d hdm
     exact ⟨Y10h h1, h2, h3⟩
    ·obtain ⟨⟨⟨_, h4⟩, h5⟩, _⟩ := hall d hdm
     have h4 := Nat.le_of_ble_eq_true h4
     have h5 := Nat.le_of_ble_eq_true h5
     refine ⟨?_, by simp [St.grow]; omega⟩
     rw [Yh9]
     simp [St.obj, List.getElem?_eq_none (show s.objs.length <= x by omega)]
    ·have h6 := ((hall d hdm).2 e hem).1
     simp only [Bool.or_eq_true, List.all_eq_true] at h6
     rcases h6 with h6 | h6
     ·rcases h6 with h6 | h6
      ·exact absurd (Nat.eq_of_beq_eq_true h6) hne
      ·rw [hnb] at h6; cases h6
     ·rcases h6 p hpm with h7 | h7
      ·exact .inl (Nat.le_of_ble_eq_true h7)
      ·exact .inr (Nat.le_of_ble_eq_true h7)
    ·have h6 := ((hall d hdm).2 e hem).2
     rw [hu] at h6
     simpa using h6
   refine wp_region_any hm (Y1dw hs pl hside (E := E) (fun ι a w hr hasm => hk _ _ ι a w (Ypp hfin (Yqm hasm)) (Rel.shrink hr)) ops.size _ ι a _ (by simp) (fun j hj => ?_) ?_ ?_ fun d hd hl => ?_)
   ·rw [Yl4] at hj; cases hj
   ·exact Nat.le_trans List.countP_le_length (by simp)
   ·have hnone : ∀ d ∈ ds, Lst (Array.replicate ops.size false) d.i = false := fun d _ => Yl4 _ _
    rw [Ynp hnone]
    exact (h.grow _).world rfl rfl rfl
   ·exfalso
    rw [Yl4] at hl; cases hl
  ·cases hfin
end
end Go.Proofs.YtclpofblehlojaaGreat.Ab
end
section
namespace Go.Proofs.YtclpofblehlojaaGreat.Ab
open Go
def mvf (id n : Nat) (i : Nat) : Nat := match Nat.beq i id with | true => n | false => i
theorem Y10j (id n : Nat) : mvf id n id = n := by unfold mvf; rw [Nat.beq_refl]
theorem Yyj {id n i : Nat} (h : i ≠ id) : mvf id n i = i := by
 unfold mvf
 split
 ·rename_i hb; exact (h (Nat.eq_of_beq_eq_true hb)).elim
 ·rfl
def Y15n : Ob -> Bool
 | .arr .. | .map .. => true
 | _ => false
def St.move (s : St) (id : Nat) : St :=
 { s with regs := s.regs.map (AV.ren (mvf id s.objs.length)), objs := (s.objs.map (Ob.ren (mvf id s.objs.length))).set id .dead ++ [s.obj id] }
def Y11r (s : St) (id : Nat) : Option St := match Y15n (s.obj id) with
 | true => some (s.move id)
 | false => none
section
variable {P : Program} {E : Ent P} {s : St} {ι : Interp} {a : Act} {w : World}
theorem Yp4 {id : Nat} (hid : id < s.objs.length) (i : Nat) : (s.move id).obj i = if i = s.objs.length then s.obj id else if i = id then .dead else (s.obj i).ren (mvf id s.objs.length) := by
 show ((s.objs.map (Ob.ren (mvf id s.objs.length))).set id .dead ++ [s.obj id]).getD i .free = _
 simp only [List.getD_eq_getElem?_getD]
 by_cases h1 : i = s.objs.length
 ·rw [if_pos h1, List.getElem?_append_right (by simp [h1])]
  simp [h1]
 ·rw [if_neg h1]
  by_cases h2 : i < s.objs.length
  ·rw [List.getElem?_append_left (by simpa using h2), List.getElem?_set]
   by_cases h3 : i = id
   ·subst h3; simp [h2]
   ·rw [if_neg h3]
    simp only [Ne.symm h3, if_false, List.getElem?_map, St.obj, List.getD_eq_getElem?_getD]
    rw [List.getElem?_eq_getElem h2]; rfl
  ·rw [List.getElem?_append_right (by simp; omega)]
   have h3 : i ≠ id := by omega
   rw [if_neg h3]
   have : s.obj i = .free := by simp [St.obj, List.getElem?_eq_none (Nat.le_of_not_lt h2)]
   rw [this]
   have : ([s.obj id] : List Ob)[i - ((s.objs.map (Ob.ren (mvf id s.objs.length))).set id .dead).length]? = none := by
    rw [List.getElem?_eq_none_iff]; simp; omega
   rw [this]; rfl
theorem Rel.move (h : Rel E s ι a w) {id : Nat} (hm : Y15n (s.obj id) = true) : ∃ ι', Rel E (s.move id) ι' a w := by
  have hid : id < s.objs.length := Ydx (o := s.obj id) rfl (fun e => by rw [e] at hm; cases hm)
  have hne : id ≠ s.objs.length := by omega
  have hren : (s.obj id).ren (mvf id s.objs.length) = s.obj id := by
    cases e : s.obj id <;> rw [e] at hm <;> first | rfl | cases hm
  have hfree : ∀ b, ¬ ι.fp s.objs.length b := by
    have := h.objs s.objs.length
    have e : s.obj s.objs.length = .free := by simp [St.obj]
    rw [e] at this; exact this
  let ι' : Interp := { G := ι.G, blk := fun i => if i = s.objs.length then ι.blk id else ι.blk i, sl := fun i => if i = s.objs.length then ι.sl id else ι.sl i,
                       fp := fun i b => if i = s.objs.length then ι.fp id b else if i = id then False else ι.fp i b }
  have htr : Tr (mvf id s.objs.length) ι s.obj ι' (s.move id).obj := by
    refine ⟨fun j hj => ?_⟩
    rw [Yp4 hid]
    by_cases h1 : j = id
    · subst h1
      rw [Y10j, if_pos rfl, hren]
      exact ⟨rfl, by simp [ι'], by simp [ι'], fun b => by simp [ι']⟩
    · rw [Yyj h1]
      have h2 : j ≠ s.objs.length := fun e => by
        unfold notFree at hj
        rw [e] at hj
        simp [St.obj] at hj
      rw [if_neg h2, if_neg h1]
      exact ⟨rfl, by simp [ι', h2], by simp [ι', h2], fun b => by simp [ι', h1, h2]⟩
  have hfp : ∀ i b, ι'.fp i b -> (i = s.objs.length /\ ι.fp id b) ∨ (i ≠ s.objs.length /\ i ≠ id /\ ι.fp i b) := by
    intro i b hb
    simp only [ι'] at hb
    split at hb
    · exact .inl ⟨‹_›, hb⟩
    · split at hb
      · exact hb.elim
      · exact .inr ⟨‹_›, ‹_›, hb⟩
  have hold : ∀ i b, ι'.fp i b -> ∃ k, ι.fp k b := fun i b hb => (hfp i b hb).elim (fun h => ⟨id, h.2⟩) fun h => ⟨i, h.2.2⟩
  refine ⟨ι', ?_⟩
  refine { len := by simp [St.move, h.len], defers := h.defers, regs := fun t => ?_, objs := fun i => ?_, disj := ?_, gfp := ?_, own := ?_, lt := ?_, glt := h.glt, frame := h.frame, size := h.size, os := h.os, out := h.out, ent := fun i => ?_, gg := h.gg, gown := h.gown, ment := h.ment }
  · have e : (s.move id).reg t = (s.reg t).ren (mvf id s.objs.length) := by
      show (s.regs.map (AV.ren (mvf id s.objs.length))).getD t _ = _
      simp only [List.getD_eq_getElem?_getD, List.getElem?_map, St.reg]
      cases s.regs[t]? <;> rfl
    rw [e]
    exact Ye5.tr htr (.inr fun _ hb => hb) (h.regs t)
  · by_cases h1 : i = s.objs.length
    · have := Yfu.tr htr (j := id) (by unfold notFree; cases e : s.obj id <;> rw [e] at hm <;> first | trivial | cases hm) (.inr fun _ hb => hb) (h.objs id)
      rw [Y10j, <- h1] at this; exact this
    · by_cases h2 : i = id
      · rw [Yp4 hid, if_neg h1, if_pos h2, h2]
        intro b hb
        simp [ι', hne] at hb
      · by_cases h3 : s.obj i = .free
        · have e : (s.move id).obj i = .free := by rw [Yp4 hid, if_neg h1, if_neg h2, h3]; rfl
          rw [e]
          have := h.objs i
          rw [h3] at this
          intro b hb
          simp only [ι', if_neg h1, if_neg h2] at hb
          exact this b hb
        · have := Yfu.tr htr (j := i) (by unfold notFree; cases e : s.obj i <;> first | trivial | exact (h3 e).elim) (.inr fun _ hb => hb) (h.objs i)
          rw [Yyj h2] at this; exact this
  · intro i j b hij hi hj
    rcases hfp i b hi with ⟨rfl, f1⟩ | ⟨n1, n2, f1⟩ <;> rcases hfp j b hj with ⟨rfl, f2⟩ | ⟨m1, m2, f2⟩
    · exact hij rfl
    · exact h.disj id j b (fun e => m2 e.symm) f1 f2
    · exact h.disj i id b n2 f1 f2
    · exact h.disj i j b hij f1 f2
  · intro i b hb hg
    obtain ⟨k, hk⟩ := hold i b hb
    exact h.gfp k b hk hg
  · intro i b hb
    obtain ⟨k, hk⟩ := hold i b hb
    exact h.own k b hk
  · intro i b hb
    obtain ⟨k, hk⟩ := hold i b hb
    exact h.lt k b hk
  · refine (h.ent i).trans (w' := w) (ι' := ι') (K := False) ?_
    rw [Yp4 hid]
    by_cases h1 : i = s.objs.length
    · have e : s.obj i = .free := by rw [h1]; simp [St.obj]
      rw [e]; trivial
    · rw [if_neg h1]
      by_cases h2 : i = id
      · rw [if_pos h2, h2]
        cases e : s.obj id <;> rw [e] at hm <;> first | trivial | cases hm
      · rw [if_neg h2]
        cases e : s.obj i with
        | free => trivial
        | dead => trivial
        | box cs => show ι'.blk i = ι.blk i; simp [ι', h1]
        | arr o z x => exact ⟨by simp [ι', h1], rfl, fun k => k.elim⟩
        | map nn k f => exact ⟨by simp [ι', h1], rfl, rfl, fun k => k.elim⟩
theorem Y16i (h : Rel E s ι a w) {id : Nat} {s' : St} (e : Y11r s id = some s') : ∃ ι', Rel E s' ι' a w := by
 unfold Y11r at e
 split at e
 ·rename_i hm
  simp only [Option.some.injEq] at e; subst e
  exact h.move hm
 ·cases e
theorem Rel.nilMap (h : Rel E s ι a w) {k : MK} (hk : Yx6 k = true) : ∃ ι', Rel E ((s.grow 1).setOb s.objs.length (.map true k (Ymf k))) ι' a w /\
  Yea w ι' ((s.grow 1).setOb s.objs.length (.map true k (Ymf k))).obj (.one (.mref s.objs.length)) (.map none) := by
 have hroom := Ynr s 1 s.objs.length (Nat.le_refl _) (by omega)
 have hf := (h.grow 1).objs s.objs.length
 rw [hroom.1] at hf
 refine ⟨ι, Rel.fresh (h.grow 1) hroom.1 hroom.2 _ rfl (fun i hi => ⟨rfl, rfl, fun b => Iff.rfl⟩) (fun b hb => (hf b hb).elim) (fun _ _ => rfl) (Nat.le_refl _) rfl rfl ?_, ⟨?_, fun nn k' f' e => ?_⟩, fun _ => rfl⟩
 ·exact ⟨hf, fun key _ => Yxu hk key⟩
 ·unfold notFree; rw [Ydc hroom.2, if_pos rfl]; trivial
 ·rw [Ydc hroom.2, if_pos rfl] at e
  cases e; rfl
def Ywn (s : St) (t : Nat) (k : MK) : Option St :=
 match s.reg t with
 | .sv (.one (.val (.lit (.map none)))) => if Yx6 k = true then some (((s.grow 1).setOb s.objs.length (.map true k (Ymf k))).put (some t) (.sv (.one (.mref s.objs.length)))) else none
 | _ => none
theorem Y13k (h : Rel E s ι a w) {t : Nat} {k : MK} {s' : St} (e : Ywn s t k = some s') : ∃ ι', Rel E s' ι' a w := by
 unfold Ywn at e
 split at e
 ·rename_i ht
  split at e
  ·rename_i hk
   simp only [Option.some.injEq] at e; subst e
   have hr := h.regs t
   rw [ht] at hr
   have hv := (Rd.lit_inv (show Rd w ι.G _ (.lit (.map none)) from hr.1)).1
   obtain ⟨ι', h1, h2⟩ := h.nilMap hk
   have := Rel.put h1 (some t) (x := .sv (.one (.mref s.objs.length))) (v := a.tmps.getD t undef) (by rw [hv]; exact h2)
   rw [Ykn] at this
   exact ⟨ι', this⟩
  ·cases e
 ·cases e
def Yx3 (s : St) (id j : Nat) (k : MK) : Option St :=
 match s.obj id with
 | .box cs => match cs[j]? with
  | some (.val (.lit (.map none))) => if Yx6 k = true then some (((s.grow 1).setOb s.objs.length (.map true k (Ymf k))).setOb id (.box (cs.set j (.mref s.objs.length)))) else none
  | _ => none
 | _ => none
theorem Y13p (h : Rel E s ι a w) {id j : Nat} {k : MK} {s' : St} (e : Yx3 s id j k = some s') : ∃ ι', Rel E s' ι' a w := by
 unfold Yx3 at e
 split at e
 ·rename_i cs ho
  split at e
  ·rename_i hj
   split at e
   ·rename_i hk
    simp only [Option.some.injEq] at e; subst e
    have hlt : id < s.objs.length := Ydx ho (by simp)
    obtain ⟨ι', h1, h2⟩ := h.nilMap hk
    refine ⟨ι', Rel.recell h1 ?_ hj fun v hv => ?_⟩
    ·rw [Ydc (by simp [St.grow])]
     rw [if_neg (by omega), Yh9]; exact ho
    ·have := (Rd.lit_inv (show Rd w ι'.G _ (.lit (.map none)) from hv.1)).1
     rw [this]; exact h2.1
   ·cases e
  ·cases e
 ·cases e
end
end Go.Proofs.YtclpofblehlojaaGreat.Ab
end
section
namespace Go.Proofs.YtclpofblehlojaaGreat.Ab
open Go
section
variable {P : Program} {E : Ent P} {s : St} {ι : Interp} {a : Act} {w : World}
theorem Rel.recellAt (h : Rel E s ι a w) {id k : Nat} {cs : List AC} (ho : s.obj id = .box cs) {c c' : AC} (hc : cs[k]? = some c)
  (hv : ∀ arr ty, w.heap[ι.blk id]? = some (.cells arr ty (0, 0)) -> ∀ v, arr.toList[k]? = some v -> Ye4 w ι s.obj c' v) : Rel E (s.setOb id (.box (cs.set k c'))) ι a w := by
 have hlt : id < s.objs.length := Ydx ho (by simp)
 have hx : Ext (fun _ => True) w ι s.obj w ι (s.setOb id (.box (cs.set k c'))).obj := Ypd fun i => by
  rw [Ydc hlt]
  by_cases hi : i = id
  ·subst hi; rw [if_pos rfl, ho]; rfl
  ·rw [if_neg hi]; cases s.obj i <;> simp [Yen] <;> exact fun b hb => .inl hb
 refine Rel.step h hx (fun t => .inl ⟨rfl, fun _ _ _ _ => trivial⟩) rfl rfl (fun i => ?_) h.disj h.gfp h.own h.lt h.glt (fun _ _ _ => rfl) (Nat.le_refl _) rfl rfl
 by_cases hi : i = id
 ·subst hi
  right
  rw [Ydc hlt, if_pos rfl]
  have := h.objs i
  rw [ho] at this
  obtain ⟨r1, arr, ty, r2, r3⟩ := this
  have r4 : Ydf (Yf6 w ι s.obj) (cs.set k c') arr.toList := r3.set fun v hvk => by
   have := r3.get hc hvk
   exact ⟨hv arr ty r2 v hvk, this.2⟩
  exact ⟨r1, arr, ty, r2, r4.imp fun c v hcv => ⟨Ye4.ext hx (fun _ _ => trivial) hcv.1, hcv.2⟩⟩
 ·left
  exact ⟨by rw [Ydc hlt, if_neg hi], ⟨rfl, rfl, fun b => Iff.rfl, fun b _ => rfl⟩, fun _ _ _ _ => trivial⟩
def Yuj (s : St) (b j i sz : Nat) (es0 : List (List Cell)) (e : List Cell) (p sz' : Nat) (es' : List (List Cell)) (cs : List AC) (k : Nat) : St :=
 (((s.grow 1).setOb j (.arr true sz (es0.set i (e.set p .any)))).setOb s.objs.length (.arr true sz' es')).setOb b (.box (cs.set k (.ref s.objs.length)))
def Yuv (b j i sz : Nat) (es0 : List (List Cell)) (cs0 : List AC) : List (Nat × Nat) -> St -> List Cell -> List AC -> Option (List Prop × St)
 | [], s, _, _ => some ([], s)
 | (k, sz') :: r, s, e, cs => match cs0[k]? with
  | some (.sub j' i' p) => (match Nat.beq j' j with
   | true => (match e[p]? with
    | some (.list es') => (match Yuv b j i sz es0 cs0 r (Yuj s b j i sz es0 e p sz' es' cs k) (e.set p .any) (cs.set k (.ref s.objs.length)) with
     | some (ps, s2) => some ((i' = i) :: (∀ x ∈ es', x.length = sz') :: ps, s2)
     | none => none)
    | _ => none)
   | false => none)
  | _ => none
def Y11w : List Prop -> Prop -> Prop
 | [], K => K
 | p :: r, K => p /\ Y11w r K
structure Held (w : World) (ι : Interp) (b j sz : Nat) (cs0 : List AC) : Prop where
 row : ∀ (arr : Array Value) (ty : TypeId) (bj : Nat), w.heap[ι.blk b]? = some (.cells arr ty (0, 0)) -> (ι.sl j).ownBlock = some bj -> ∀ (k i p : Nat), cs0[k]? = some (AC.sub j i p) -> ∀ v : Value, arr.toList[k]? = some v -> w.cell? ⟨bj, i * sz + p, none⟩ = some v
def Y1kj (s : St) (j : Nat) : Prop := (∀ t, ∀ c ∈ (s.reg t).acs, ∀ k, c.src = some k -> k ≠ j) /\ ∀ k, ∀ c ∈ (s.obj k).acs, ∀ k', c.src = some k' -> k' ≠ j
theorem Yy7 {b j i sz : Nat} {es0 : List (List Cell)} {cs0 : List AC} (hbj : b ≠ j) : ∀ {l : List (Nat × Nat)} {s : St} {ι : Interp} {e : List Cell} {cs : List AC} {esc : List (List Cell)} {ps : List Prop} {s2 : St} {K : Prop},
  Yuv b j i sz es0 cs0 l s e cs = some (ps, s2) -> Y11w ps K -> Rel E s ι a w -> s.obj j = .arr true sz esc -> esc[i]? = some e -> (∀ x, esc.set i x = es0.set i x) -> s.obj b = .box cs -> cs.length = cs0.length -> Y1kj s j -> Held w ι b j sz cs0 ->
   K /\ ∃ ι', Rel E s2 ι' a w
 | [], s, ι, e, cs, esc, ps, s2, K, hp, hK, h, _, _, _, _, _, _, _ => by
  simp only [Yuv, Option.some.injEq, Prod.mk.injEq] at hp
  obtain ⟨rfl, rfl⟩ := hp
  exact ⟨hK, ι, h⟩
 | (k, sz') :: r, s, ι, e, cs, esc, ps, s2, K, hp, hK, h, hj, he, hes, hb, hcl, hn, hh => by
  simp only [Yuv] at hp
  split at hp
  ·rename_i j' i' p hk
   split at hp
   ·rename_i hjj
    obtain rfl := Nat.eq_of_beq_eq_true hjj
    split at hp
    ·rename_i es' hep
     split at hp
     ·rename_i ps' s2' hrec
      simp only [Option.some.injEq, Prod.mk.injEq] at hp
      obtain ⟨rfl, rfl⟩ := hp
      obtain ⟨rfl, hx, hK⟩ := hK
      have hg := h.grow 1
      have hroom := Ynr s 1 s.objs.length (Nat.le_refl _) (by omega)
      have hjg : (s.grow 1).obj j' = .arr true sz esc := by rw [Yh9]; exact hj
      obtain ⟨ι1, h1, hsl, htk, hext, _⟩ := hg.focus hjg he hep hx hroom.1 hroom.2 (fun t c hc k hk => by
        have : c ∈ (s.reg t).acs := by
         have e : (s.grow 1).reg t = s.reg t := rfl
         rwa [e] at hc
        exact hn.1 t c this k hk) (fun k c hc k' hk' => by rw [Yh9] at hc; exact hn.2 k c hc k' hk')
      have hbl : b < s.objs.length := Ydx hb (by simp)
      have hjl : j' < s.objs.length := Ydx hj (by simp)
      have hbn : b ≠ s.objs.length := Nat.ne_of_lt hbl
      have hjn : j' ≠ s.objs.length := Nat.ne_of_lt hjl
      have hobj1 : ∀ x, (Ye2 (s.grow 1) j' s.objs.length i' p sz esc e sz' es').obj x = if x = s.objs.length then .arr true sz' es' else if x = j' then .arr true sz (esc.set i' (e.set p .any)) else s.obj x := by
       intro x
       unfold Ye2
       rw [Ydc (by rw [Ydh]; exact hroom.2), Ydc (by have := hroom.2; omega), Yh9]
      have hb1 : (Ye2 (s.grow 1) j' s.objs.length i' p sz esc e sz' es').obj b = .box cs := by
       rw [hobj1, if_neg hbn, if_neg hbj]; exact hb
      have hkl : k < cs.length := by rw [hcl]; exact (List.getElem?_eq_some_iff.1 hk).1
      have hblk : ι1.blk b = ι.blk b := by
       have := hext.o b
       rw [Yh9, hb, hb1] at this
       exact this
      have h2 := Rel.recellAt h1 hb1 (c := cs[k]) (List.getElem?_eq_getElem hkl) (c' := .ref s.objs.length) (fun arr ty hheap v hv => by
       refine ⟨?_, fun own sz1 es1 ho1 => ?_⟩
       ·unfold notFree; rw [hobj1, if_pos rfl]; trivial
       ·obtain ⟨bj, hbjk, _⟩ := htk.blk
        have hcell := htk.cell bj hbjk
        rw [hsl] at hbjk
        rw [hblk] at hheap
        have := hh.row arr ty bj hheap hbjk k i' p hk v hv
        rw [this] at hcell
        exact Option.some.inj hcell)
      have hst : (Ye2 (s.grow 1) j' s.objs.length i' p sz esc e sz' es').setOb b (.box (cs.set k (.ref s.objs.length))) = Yuj s b j' i' sz es0 e p sz' es' cs k := by
       unfold Ye2 Yuj; rw [hes]
      rw [hst] at h2
      have hobj2 : ∀ x, (Yuj s b j' i' sz es0 e p sz' es' cs k).obj x = if x = b then .box (cs.set k (.ref s.objs.length)) else if x = s.objs.length then .arr true sz' es' else if x = j' then .arr true sz (es0.set i' (e.set p .any)) else s.obj x := by
       intro x
       rw [<- hst, Ydc (by unfold Ye2; rw [Ydh, Ydh]; simp [St.grow]; omega), hobj1, hes]
      have hil : i' < esc.length := (List.getElem?_eq_some_iff.1 he).1
      have hset : esc.set i' (e.set p .any) = es0.set i' (e.set p .any) := hes _
      refine Yy7 hbj hrec hK h2 (esc := es0.set i' (e.set p .any)) ?_ ?_ ?_ ?_ ?_ ?_ ?_
      ·rw [hobj2, if_neg (Ne.symm hbj), if_neg hjn, if_pos rfl]
      ·rw [<- hset, List.getElem?_set_self hil]
      ·intro x; rw [List.set_set]
      ·rw [hobj2, if_pos rfl]
      ·rw [List.length_set]; exact hcl
      ·refine ⟨fun t c hc k1 hk1 => hn.1 t c hc k1 hk1, fun x c hc k1 hk1 => ?_⟩
       rw [hobj2] at hc
       split at hc
       ·simp only [Ob.acs] at hc
        rcases List.mem_or_eq_of_mem_set hc with hc | rfl
        ·exact hn.2 b c (by rw [hb]; exact hc) k1 hk1
        ·cases hk1
       ·split at hc
        ·simp [Ob.acs] at hc
        ·split at hc
         ·simp [Ob.acs] at hc
         ·exact hn.2 x c hc k1 hk1
      ·refine ⟨fun arr ty bj hheap hbk k1 i1 p1 hk1 v hv => ?_⟩
       rw [hblk] at hheap
       rw [hsl] at hbk
       exact hh.row arr ty bj hheap hbk k1 i1 p1 hk1 v hv
     ·cases hp
    ·cases hp
   ·cases hp
  ·cases hp
def Ynq (s : St) : Ghost -> Option (List Prop × St)
 | .pull b e l => match s.obj b with
  | .box cs0 => (match Ypk cs0 with
   | some (j, i) => (match s.obj j, Nat.beq b j with
    | .arr true sz es, false => (match Yuv b j i sz es cs0 l (s.inval [j]) e (cs0.map (Yey [j])) with
     | some (ps, s2) => some ((es[i]? = some e) :: ps, s2)
     | none => none)
    | _, _ => none)
   | none => none)
  | _ => none
 | _ => none
theorem Yq2 (h : Rel E s ι a w) {g : Ghost} {ps : List Prop} {s2 : St} {K : Prop} (e : Ynq s g = some (ps, s2)) (hK : Y11w ps K) : K /\ ∃ ι', Rel E s2 ι' a w := by
 unfold Ynq at e
 split at e
 ·rename_i b e0 l
  split at e
  ·rename_i cs0 hb
   split at e
   ·rename_i j i hfs
    split at e
    ·rename_i sz es hj hbj
     split at e
     ·rename_i ps' s2' hp
      simp only [Option.some.injEq, Prod.mk.injEq] at e
      obtain ⟨rfl, rfl⟩ := e
      obtain ⟨he, hK⟩ := hK
      have hne : b ≠ j := Nat.ne_of_beq_eq_false hbj
      refine Yy7 hne hp hK (h.inval [j]) (esc := es) ?_ he (fun _ => rfl) ?_ ?_ ?_ ?_
      ·rw [Ydv, hj]; rfl
      ·rw [Ydv, hb]; rfl
      ·rw [List.length_map]
      ·refine ⟨fun t c hc k hk => ?_, fun k c hc k' hk' => ?_⟩
       ·rw [Yhl] at hc
        have := Yio _ hc hk
        simpa using this
       ·rw [Ydv] at hc
        cases hk : s.obj k with
        | box cs => rw [hk] at hc; simp [Ydt, Ob.acs] at hc; obtain ⟨y, _, rfl⟩ := hc; have := Yh6 _ hk'; simpa using this
        | free => rw [hk] at hc; simp [Ydt, Ob.acs] at hc
        | dead => rw [hk] at hc; simp [Ydt, Ob.acs] at hc
        | map _ _ _ => rw [hk] at hc; simp [Ydt, Ob.acs] at hc
        | arr _ _ _ => rw [hk] at hc; simp [Ydt, Ob.acs] at hc
      ·refine ⟨fun arr ty bj hheap hbk k i1 p1 hk v hv => ?_⟩
       have hob := h.objs b
       rw [hb] at hob
       obtain ⟨_, arr2, ty2, hheap2, r3⟩ := hob
       rw [hheap] at hheap2
       simp only [Option.some.injEq, Obj.cells.injEq] at hheap2
       obtain ⟨rfl, _, _⟩ := hheap2
       have hc := r3.get hk hv
       obtain ⟨b2, hb2, _, hcell⟩ := hc.1.2 _ _ _ hj
       rw [hbk] at hb2
       simp only [Option.some.injEq] at hb2
       subst hb2
       exact hcell
     ·cases e
    ·cases e
   ·cases e
  ·cases e
 ·cases e
end
end Go.Proofs.YtclpofblehlojaaGreat.Ab
end
section
namespace Go.Proofs.YtclpofblehlojaaGreat.Ab
open Go
def Yk8 (s : St) : Ghost -> Option St
 | .sel ids keep => match Yun s.m ids with
  | true => some (s.sel ids keep)
  | false => none
 | .lock id => match s.obj id with
  | .arr _ _ es => some (s.lock id es)
  | _ => none
 | .nilreg t own sz => Y127 s t own sz
 | .nilbox id k own sz => Y11o s id k own sz
 | .nilmreg t k => Ywn s t k
 | .nilmbox id j k => Yx3 s id j k
 | .move id => Y11r s id
 | .blank id k => match s.obj id with
  | .box cs => match cs[k]? with
   | some _ => some (s.setOb id (.box (cs.set k .top)))
   | none => none
  | _ => none
 | .cap t id => match s.reg t with
  | .sv (.one (.ptr id' 0)) => (match Nat.beq id' id with
   | true => (match s.obj id with
    | .box [.val (.lit v)] => some ((s.setOb id .dead).put (some t) (.sv (.one (.val (.cap v)))))
    | _ => none)
   | false => none)
  | _ => none
 | .pull _ _ _ => none
def Yfa : List Orc -> St -> (St -> List Orc -> Prop) -> Prop
 | .ghost g :: q, s, k => match Yk8 s g with
  | some s' => Yfa q s' k
  | none => match Ynq s g with
   | some (ps, s') => Y11w ps (Yfa q s' k)
   | none => StuckGhost s g
 | q, s, k => k s q
section
variable {P : Program} {E : Ent P} {s : St} {ι : Interp} {a : Act} {w : World}
theorem Rel.capBox (h : Rel E s ι a w) {t id : Nat} {v : Value} (ht : s.reg t = .sv (.one (.ptr id 0))) (ho : s.obj id = .box [.val (.lit v)]) :
  ∃ ι', Rel E ((s.setOb id .dead).put (some t) (.sv (.one (.val (.cap v))))) ι' a w := by
 let ι' : Interp := { ι with G := fun b => ι.G b ∨ ι.fp id b, fp := fun i b => i ≠ id /\ ι.fp i b }
 have hlt : id < s.objs.length := Ydx ho (by simp)
 have hob := h.objs id
 rw [ho] at hob
 obtain ⟨hfp, arr, ty, hheap, ha⟩ := hob
 have hx : Ext (fun _ => True) w ι s.obj w ι' (s.setOb id .dead).obj := by
  refine ⟨fun b hb => ⟨.inl hb, rfl⟩, fun i => ?_⟩
  rw [Ydc hlt]
  by_cases hi : i = id
  ·subst hi; rw [if_pos rfl, ho]; trivial
  ·rw [if_neg hi]
   cases e : s.obj i with
   | free => trivial
   | dead => trivial
   | box cs => rfl
   | arr o1 s1 e1 => exact ⟨rfl, rfl, fun _ b hb => ⟨.inl ⟨hi, hb⟩, rfl⟩⟩
   | map _ _ _ => exact ⟨rfl, rfl, rfl, fun _ b hb => ⟨.inl ⟨hi, hb⟩, rfl⟩⟩
 have hr := h.regs t
 rw [ht] at hr
 have hp := hr.1.2 _ ho
 obtain ⟨u, hu, hcu⟩ : ∃ u, arr.toList = [u] /\ Yf6 w ι s.obj (.val (.lit v)) u := by
  cases hl : arr.toList with
  | nil => rw [hl] at ha; exact ha.elim
  | cons u r =>
   rw [hl] at ha
   cases r with
   | nil => exact ⟨u, rfl, ha.1⟩
   | cons y r => exact ha.2.elim
 obtain ⟨rfl, hlit⟩ := Rd.lit_inv (show Rd w ι.G u (.lit v) from hcu.1)
 have hcell : w.cell? ⟨ι.blk id, 0, none⟩ = some u := by
  rw [cell_of_row w _ _ arr ty (0, 0) hheap]
  have : arr[0]? = some u := by rw [<- Array.getElem?_toList, hu]; rfl
  simpa using this
 have hstep : Rel E (s.setOb id .dead) ι' a w := by
  refine Rel.step h hx (fun t => .inl ⟨rfl, fun _ _ _ _ => trivial⟩) rfl rfl (fun i => ?_) ?_ ?_ ?_ ?_ ?_ (fun _ _ _ => rfl) (Nat.le_refl _) rfl rfl (hG := ?_)
  ·right
   rw [Ydc hlt]
   by_cases hi : i = id
   ·rw [if_pos hi]; rintro b ⟨h1, _⟩; exact h1 hi
   ·rw [if_neg hi]
    have := h.objs i
    cases e : s.obj i with
    | free => rw [e] at this; exact fun b hb => this b hb.2
    | dead => rw [e] at this; exact fun b hb => this b hb.2
    | box cs =>
     rw [e] at this
     obtain ⟨r1, arr1, ty1, r2, r3⟩ := this
     exact ⟨⟨hi, r1⟩, arr1, ty1, r2, r3.imp fun c x hcx => ⟨Ye4.ext hx (fun _ _ => trivial) hcx.1, hcx.2⟩⟩
    | arr o1 s1 e1 =>
     rw [e] at this
     have hf : ι'.fp i = ι.fp i := by funext b; simp [ι', hi]
     show Ydz w (Yem w ι'.G o1) s1 (ι'.fp i) (ι.sl i) e1
     rw [hf]
     exact Ydz.mono this (fun b hb => ⟨.inl hb, rfl⟩) fun _ _ => rfl
    | map nn k f =>
     rw [e] at this
     cases nn with
     | true => exact ⟨fun b hb => this.1 b hb.2, this.2⟩
     | false => exact Yev.mono this (fun x hx => ⟨hi, hx⟩) fun _ _ => rfl
  ·exact fun i j b hij hi hj => h.disj i j b hij hi.2 hj.2
  ·rintro i b hi (hg | hg)
   ·exact h.gfp i b hi.2 hg
   ·exact h.disj i id b hi.1 hi.2 hg
  ·exact fun i b hi => h.own i b hi.2
  ·exact fun i b hi => h.lt i b hi.2
  ·rintro b (hb | hb)
   ·exact h.glt b hb
   ·exact h.lt id b hb
  ·rintro b (hb | hb)
   ·exact .inl hb
   ·exact .inr (.inl ⟨id, hb⟩)
 have := Rel.put hstep (some t) (x := .sv (.one (.val (.cap u)))) (v := a.tmps.getD t undef) (by
  rw [hp]
  exact ⟨.cap (.inr hfp) hlit hcell, fun _ => rfl⟩)
 rw [Ykn] at this
 exact ⟨ι', this⟩
theorem Yet : ∀ {q : List Orc} {s : St} {k : St -> List Orc -> Prop} {ι : Interp}, Yfa q s k -> Rel E s ι a w -> ∃ s' q' ι', k s' q' /\ Rel E s' ι' a w
 | [], s, k, ι, hx, h => ⟨_, _, _, hx, h⟩
 | o :: q, s, k, ι, hx, h => by
  cases o with
  | ghost g =>
   simp only [Yfa] at hx
   split at hx
   ·rename_i s' he
    cases g with
    | sel ids keep =>
     simp only [Yk8] at he
     split at he
     ·rename_i hok
      simp only [Option.some.injEq] at he; subst he
      exact Yet hx (h.sel keep hok)
     ·cases he
    | lock id =>
     simp only [Yk8] at he
     split at he
     ·rename_i ho
      simp only [Option.some.injEq] at he; subst he
      obtain ⟨ι', h'⟩ := h.lock ho
      exact Yet hx h'
     ·cases he
    | nilreg t own sz =>
     obtain ⟨ι', h'⟩ := Y184 h he
     exact Yet hx h'
    | nilbox id k own sz =>
     obtain ⟨ι', h'⟩ := Y179 h he
     exact Yet hx h'
    | nilmreg t k =>
     obtain ⟨ι', h'⟩ := Y13k h he
     exact Yet hx h'
    | nilmbox id j k =>
     obtain ⟨ι', h'⟩ := Y13p h he
     exact Yet hx h'
    | move id =>
     obtain ⟨ι', h'⟩ := Y16i h he
     exact Yet hx h'
    | blank id k =>
     simp only [Yk8] at he
     split at he
     ·rename_i cs ho
      split at he
      ·rename_i c hc
       simp only [Option.some.injEq] at he; subst he
       exact Yet hx (h.recell ho hc fun _ _ => trivial)
      ·cases he
     ·cases he
    | cap t id =>
     simp only [Yk8] at he
     split at he
     ·rename_i id' ht
      split at he
      ·rename_i hid
       obtain rfl := Nat.eq_of_beq_eq_true hid
       split at he
       ·rename_i v ho
        simp only [Option.some.injEq] at he; subst he
        obtain ⟨ι', h'⟩ := h.capBox ht ho
        exact Yet hx h'
       ·cases he
      ·cases he
     ·cases he
    | pull b e l => cases he
   ·split at hx
    ·rename_i ps s' he
     obtain ⟨hx, ι', h'⟩ := Yq2 h he hx
     exact Yet hx h'
    ·cases hx
  | _ => exact ⟨_, _, _, hx, h⟩
def Yvl (k : Nat) : List AV -> Nat
 | [] => 0
 | x :: r => match x with
  | .sv (.one (.ref j)) => (match Nat.beq j k with | true => Yvl k r + 1 | false => Yvl k r)
  | _ => Yvl k r
def Y163 (s : St) (o : Oper) : Option (Nat × Nat × List (List Cell)) :=
 match o.op with
 | .call { callee := .builtin .append, args := args, .. } => match args.toList with
  | [_, .tmp t] => match s.reg t with
   | .sv (.one (.ref k)) => match s.obj k with
    | .arr true 1 es => (match Nat.ble 3 (Yvl k s.regs) with | true => some (t, k, es) | false => none)
    | _ => none
   | _ => none
  | _ => none
 | _ => none
theorem Rel.view (h : Rel E s ι a w) {t id sz : Nat} {own : Bool} {es : List (List Cell)} (ht : s.reg t = .sv (.one (.ref id))) (ho : s.obj id = .arr own sz es) : Rel E (s.put (some t) (.sv (.one (.bor id (.list es))))) ι a w := by
 have hv := h.regs t
 rw [ht] at hv
 have hob := h.objs id
 rw [ho] at hob
 have he : a.tmps.getD t undef = ι.sl id := hv.1.2 _ _ _ ho
 have hr := Ydz.rd (show Ydz w (Yem w ι.G own) sz (ι.fp id) (ι.sl id) es from hob)
 have := Rel.put h (some t) (x := .sv (.one (.bor id (.list es)))) (v := a.tmps.getD t undef) ⟨⟨hv.1.1, fun _ => by rw [he]; exact hr⟩, fun _ => hv.2 (by simp)⟩
 rw [Ykn] at this
 exact this
theorem Y1di {o : Oper} {t k : Nat} {es : List (List Cell)} (e : Y163 s o = some (t, k, es)) : s.reg t = .sv (.one (.ref k)) /\ s.obj k = .arr true 1 es := by
 unfold Y163 at e
 split at e
 ·split at e
  ·split at e
   ·rename_i ht
    split at e
    ·rename_i ho
     split at e
     ·simp only [Option.some.injEq, Prod.mk.injEq] at e
      obtain ⟨rfl, rfl, rfl⟩ := e
      exact ⟨ht, ho⟩
     ·cases e
    ·cases e
   ·cases e
  ·cases e
 ·cases e
def Y1c8 (o : Oper) (q : List Orc) (s : St) (k : St -> List Orc -> Prop) : Prop :=
 match o.op with
 | .call { callee := .value _, .. } => Yfa q s k
 | .makeFunc .. => Yfa q s k
 | _ => match Y163 s o with
  | none => k s q
  | some (t, id, es) => match q with
   | .bool true :: q' => k (s.put (some t) (.sv (.one (.bor id (.list es))))) q'
   | .bool false :: q' => k s q'
   | _ => StuckPull s o
theorem Y1by {o : Oper} {q : List Orc} {k : St -> List Orc -> Prop} (hx : Y1c8 o q s k) (h : Rel E s ι a w) : ∃ s' q' ι', k s' q' /\ Rel E s' ι' a w := by
 unfold Y1c8 at hx
 split at hx
 ·exact Yet hx h
 ·exact Yet hx h
 ·split at hx
  ·exact ⟨_, _, _, hx, h⟩
  ·rename_i t id es e
   have hv := Y1di e
   split at hx
   ·exact ⟨_, _, _, hx, h.view hv.1 hv.2⟩
   ·exact ⟨_, _, _, hx, h⟩
   ·cases hx
def Y1cw (s : St) (o : Oper) : Bool :=
 match o.op with
 | .store _ (.tmp p) (.tmp v) => (match s.reg v, s.reg p with
  | .sv (.agg cs), .sv (.one (.ptr b _)) => (match Ypk cs, s.obj b with
   | some _, .box _ => true
   | _, _ => false)
  | _, _ => false)
 | _ => false
def Y17t (o : Oper) (q : List Orc) (s : St) (k : St -> List Orc -> Prop) : Prop :=
 match Y1cw s o with
 | false => k s q
 | true => match q with
  | .ghost g :: q' => (match Ynq s g with
   | some (ps, s') => Y11w ps (k s' q')
   | none => StuckGhost s g)
  | .bool _ :: q' => k s q'
  | _ => StuckPull s o
theorem Y1ba {o : Oper} {q : List Orc} {k : St -> List Orc -> Prop} (hx : Y17t o q s k) (h : Rel E s ι a w) : ∃ s' q' ι', k s' q' /\ Rel E s' ι' a w := by
 unfold Y17t at hx
 split at hx
 ·exact ⟨_, _, _, hx, h⟩
 ·split at hx
  ·split at hx
   ·rename_i ps s' he
    obtain ⟨hx, ι', h'⟩ := Yq2 h he hx
    exact ⟨_, _, _, hx, h'⟩
   ·cases hx
  ·exact ⟨_, _, _, hx, h⟩
  ·cases hx
def Ytt (P : Program) (ops : Array Oper) : List Nat -> St -> List Orc -> (St -> List Orc -> Prop) -> Prop
 | [], s, q, k => k s q
 | i :: rest, s, q, k => match ops[i]? with
  | none => Ytt P ops rest s q k
  | some o => match Yj0 ops s o with
   | none => StuckGuard s o
   | some false => Ytt P ops rest (s.put o.dst (.tup [])) q k
   | some true => Y1c8 o q s fun s q => match Y1d9 P (s.grow (Yf0 o)) o s.objs.length q with
    | none => StuckOp s o s.objs.length
    | some (r, it, q') => VC it (fSt ((((s.grow (Yf0 o)).app s.objs.length r).put o.dst r.val).shrink) fun s => Yx7 (Y1ed ops i) o.dst s q' (fun s q => Y17t o q s fun s q => Ytt P ops rest s q k))
theorem Ylx {ops : Array Oper} {Q : Exit -> Act -> World -> Prop} : ∀ {l : List Nat} {s : St} {q : List Orc} {k : St -> List Orc -> Prop} {ι : Interp} {a : Act} {w : World},
  Ytt P ops l s q k -> Rel E s ι a w -> (∀ s' q' ι' a' w', k s' q' -> Rel E s' ι' a' w' -> Q .normal a' w') -> wpOps P ops Q l a w
 | [], s, q, k, ι, a, w, hx, h, hk => hk _ _ _ _ _ hx h
 | i :: rest, s, q, k, ι, a, w, hx, h, hk => by
  unfold Ytt at hx
  unfold wpOps
  split at hx
  ·rename_i ho; simp only [ho]; exact Ylx hx h hk
  ·rename_i o ho
   simp only [ho]
   split at hx
   ·cases hx
   ·rename_i hw
    rw [Ym5 h hw]
    simp only [Bool.false_eq_true, if_false]
    exact Ylx hx (Rel.put h o.dst Yxn) hk
   ·rename_i hw
    rw [Ym5 h hw]
    simp only [if_true]
    obtain ⟨s, q, ι, hx, h⟩ := Y1by hx h
    split at hx
    ·cases hx
    ·rename_i r it q' he
     rw [Ymi] at hx
     obtain ⟨h1, h2⟩ := Y17c (h.grow (Yf0 o)) he hx (Ynr s _)
     left
     refine h1 _ _ fun ι' v w' hr hv => ?_
     obtain ⟨s', q'', hk', hr'⟩ := Y13r (Rel.shrink (Rel.put hr o.dst hv)) h2
     obtain ⟨s2, q2, ι2, hk2, hr2⟩ := Y1ba hk' hr'
     exact Ylx hk2 hr2 hk
end
end Go.Proofs.YtclpofblehlojaaGreat.Ab
end
section
namespace Go.Proofs.YtclpofblehlojaaGreat.Ab
open Go
def AEx.to : AEx -> Exit
 | .normal => .normal
 | .exit i => .exit i
 | .ret => .ret
abbrev Ywf := List (Prop × AEx × St × List Orc)
abbrev Ywi := List (Prop × AEx × St)
def ways : Ywf -> Ywi
 | [] => []
 | (p, e, s, _) :: r => (p, e, s) :: ways r
theorem Y11j : ∀ {l : Ywf} {o : Prop × AEx × St}, o ∈ ways l -> ∃ x ∈ l, x.1 = o.1 /\ x.2.1 = o.2.1 /\ x.2.2.1 = o.2.2
 | (p, e, s, q) :: r, o, h => by
  rcases List.mem_cons.1 h with rfl | h
  ·exact ⟨_, List.mem_cons_self, rfl, rfl, rfl⟩
  ·obtain ⟨x, h1, h2⟩ := Y11j h
   exact ⟨x, List.mem_cons_of_mem _ h1, h2⟩
def Ykl (P : Program) (c : Code) (I : Nat -> St -> Prop) (outs : Ywi) : Prop :=
 ∀ (E : Ent P) (m : Nat) (s : St) (ι : Interp) (a : Act) (w : World), I m s -> Rel E s ι a w -> c.wp P (fun e a' w' => ∃ s' ι', Rel E s' ι' a' w' /\
  ((e = .normal /\ ∃ m', m' < m /\ I m' s') ∨ ∃ o ∈ outs, o.1 /\ e = o.2.1.to /\ e ≠ .normal /\ o.2.2 = s')) a w
def Y17r (k : AEx -> St -> List Orc -> Prop) : Ywf -> Prop
 | [] => True
 | o :: r => (o.1 -> k o.2.1 o.2.2.1 o.2.2.2) /\ Y17r k r
theorem Yxx {k : AEx -> St -> List Orc -> Prop} : ∀ {l : Ywf}, Y17r k l -> ∀ {o}, o ∈ l -> o.1 -> k o.2.1 o.2.2.1 o.2.2.2
 | x :: l, h, o, hm, ho => by
  rcases List.mem_cons.1 hm with rfl | hm
  ·exact h.1 ho
  ·exact Yxx h.2 hm ho
def Y1jc : AEx -> AEx -> Bool
 | .ret, .ret => true
 | .exit i, .exit j => Nat.beq i j
 | _, _ => false
theorem Y15j : ∀ {x y : AEx}, Y1jc x y = true -> x = y
 | .ret, .ret, _ => rfl
 | .exit i, .exit j, h => by rw [Nat.eq_of_beq_eq_true h]
 | .normal, _, h => by cases h
 | .exit _, .normal, h => by cases h
 | .exit _, .ret, h => by cases h
 | .ret, .normal, h => by cases h
 | .ret, .exit _, h => by cases h
def Y17z (I : Nat -> St -> Prop) (outs : Ywi) (m : Nat) : AEx -> St -> List Orc -> Prop
 | .normal, s, q => Yfa q s fun s q => match q with
  | .goto m' t :: _ => m' < m /\ s = t /\ I m' t
  | _ => StuckOut .normal s
 | e, s, q => Yfa q s fun s q => match q with
  | .out i :: _ => match outs[i]? with
   | some o => match Y1jc o.2.1 e with
    | true => o.1 /\ s = o.2.2
    | false => False
   | none => False
  | _ => StuckOut e s
def Yzu {σ : Type} (head : σ -> St) (inv : σ -> Prop) (meas : σ -> Nat) (m : Nat) (s : St) : Prop := ∃ k, inv k /\ m = meas k /\ s = head k
theorem Yzu.mk {σ : Type} {head : σ -> St} {inv : σ -> Prop} {meas : σ -> Nat} {k : σ} (h : inv k) : Yzu head inv meas (meas k) (head k) := ⟨k, h, rfl, rfl⟩
def Y171 (b : Bool) (q : List Orc) (x y : List Orc -> Prop) : Prop :=
 match q with
 | .bool true :: q => b = true /\ x q
 | .bool false :: q => b = false /\ y q
 | .br l r :: _ => (b = true -> x l) /\ (b = false -> y r)
 | _ => StuckB b
def Y17g (s : St) (c : Operand) (b : Bool) : St := match c with
 | .tmp t => s.put (some t) (Ynu b)
 | _ => s
def Yhd (P : Program) : Code -> St -> List Orc -> (AEx -> St -> List Orc -> Prop) -> Prop
 | .skip, s, q, k => k .normal s q
 | .region _ ops false, s, q, k => Ytt P ops (List.range ops.size) s q (k .normal)
 | .region _ ops true, s, q, k => match q with
  | .draw tids :: q => Y17e P ops tids s q (k .normal)
  | .drawT p1 q1 c1 tids :: q => Y11b P ops p1 q1 c1 tids s q (k .normal)
  | _ => StuckReg s ops
 | .seq x y, s, q, k => Yhd P x s q fun e s q => match e with
  | .normal => Yhd P y s q k
  | e => k e s q
 | .cond c x y, s, q, k => match s.lit c with
  | some (.bool b) => Y171 b q (fun q => Yhd P x (Y17g s c true) q k) (fun q => Yhd P y (Y17g s c false) q k)
  | _ => StuckCond s c
 | .block id c, s, q, k => Yhd P c s q fun e s q => match e with
  | .exit i => match Nat.beq i id with
   | true => k .normal s q
   | false => k (.exit i) s q
  | e => k e s q
 | .exit i, s, q, k => k (.exit i) s q
 | .ret, s, q, k => k .ret s q
 | .loop c, s, q, k => Yfa q s fun s q => match q with
  | .loop m t I outs :: _ => s = t /\ I m t /\ Ykl P c I (ways outs) /\ Y17r k outs
  | _ => StuckLoop s c
 | c, _, _, _ => StuckCode c
section
variable {P : Program} {E : Ent P} {s : St} {ι : Interp} {a : Act} {w : World}
theorem Y13h {b : Bool} {q : List Orc} {x y : List Orc -> Prop} (h : Y171 b q x y) : (b = true /\ ∃ q', x q') ∨ (b = false /\ ∃ q', y q') := by
 unfold Y171 at h
 split at h
 ·exact .inl ⟨h.1, _, h.2⟩
 ·exact .inr ⟨h.1, _, h.2⟩
 ·cases b
  ·exact .inr ⟨rfl, _, h.2 rfl⟩
  ·exact .inl ⟨rfl, _, h.1 rfl⟩
 ·cases h
theorem Yys (h : Rel E s ι a w) {c : Operand} {b : Bool} (hb : a.eval c = .bool b) : Rel E (Y17g s c b) ι a w := by
 cases c with
 | tmp t =>
  have hb' : a.tmps.getD t undef = .bool b := by simpa [Act.eval] using hb
  have := Rel.put h (some t) (x := Ynu b) (v := a.tmps.getD t undef) (by rw [hb']; exact ⟨.lit trivial, fun _ => rfl⟩)
  rw [Ykn] at this
  exact this
 | _ => exact h
theorem Yst {c : Code} {I : Nat -> St -> Prop} {outs : Ywi} (hl : Ykl P c I outs) {Q : Exit -> Act -> World -> Prop}
  (hQ : ∀ o ∈ outs, o.1 -> ∀ ι a w, o.2.1.to ≠ .normal -> Rel E o.2.2 ι a w -> Q o.2.1.to a w) :
  ∀ (N m : Nat) (s : St) (ι : Interp) (a : Act) (w : World), m < N -> I m s -> Rel E s ι a w -> Code.rounds P c Q N a w
 | 0, m, s, ι, a, w, hm, _, _ => absurd hm (Nat.not_lt_zero _)
 | N + 1, m, s, ι, a, w, hm, hI, h => by
  rw [rounds_succ]
  refine Code.wp_mono ?_ (hl E m s ι a w hI h)
  rintro e a' w' ⟨s', ι', h', (⟨rfl, m', hm', hI'⟩ | ⟨o, ho, hp, rfl, hn, rfl⟩)⟩
  ·exact Yst hl hQ N m' s' ι' a' w' (by omega) hI' h'
  ·have := hQ o ho hp ι' a' w' hn h'
   cases e : o.2.1 with
   | normal => rw [e] at hn; exact absurd rfl hn
   | exit i => rw [e] at this; exact this
   | ret => rw [e] at this; exact this
theorem Ysu (hm : P.follows .mixedOrders = true) : ∀ (c : Code) {s : St} {q : List Orc} {k : AEx -> St -> List Orc -> Prop} {ι : Interp} {a : Act} {w : World},
  Yhd P c s q k -> Rel E s ι a w -> c.wp P (fun e a' w' => ∃ ex s' q' ι', e = ex.to /\ k ex s' q' /\ Rel E s' ι' a' w') a w := by
 intro c
 induction c with
 | skip => intro s q k ι a w hx h; exact wp_skip ⟨.normal, _, _, _, rfl, hx, h⟩
 | region id ops draw =>
  intro s q k ι a w hx h
  cases draw with
  | true =>
   simp only [Yhd] at hx
   split at hx
   ·exact Y13b hm hx h fun s' q' ι' a' w' hk hr => ⟨.normal, _, _, _, rfl, hk, hr⟩
   ·exact Y105 hm hx h fun s' q' ι' a' w' hk hr => ⟨.normal, _, _, _, rfl, hk, hr⟩
   ·cases hx
  | false =>
   exact wp_region (Ylx (show Ytt P ops (List.range ops.size) s q (k .normal) from hx) h fun s' q' ι' a' w' hk hr => ⟨.normal, _, _, _, rfl, hk, hr⟩)
 | seq x y ihx ihy =>
  intro s q k ι a w hx h
  refine wp_seq (Code.wp_mono ?_ (ihx (show Yhd P x s q _ from hx) h))
  rintro e a' w' ⟨ex, s', q', ι', rfl, hk, hr⟩
  cases ex with
  | normal => exact ihy hk hr
  | exit i => exact ⟨.exit i, _, _, _, rfl, hk, hr⟩
  | ret => exact ⟨.ret, _, _, _, rfl, hk, hr⟩
 | cond c x y ihx ihy =>
  intro s q k ι a w hx h
  simp only [Yhd] at hx
  split at hx
  ·rename_i b hb
   have hc := (Ygu h hb).1
   rcases Y13h hx with ⟨rfl, q', hx⟩ | ⟨rfl, q', hx⟩
   ·exact wp_cond_true hc (ihx hx (Yys h hc))
   ·exact wp_cond_false hc (ihy hx (Yys h hc))
  ·cases hx
 | block id c ih =>
  intro s q k ι a w hx h
  refine wp_block (Code.wp_mono ?_ (ih (show Yhd P c s q _ from hx) h))
  rintro e a' w' ⟨ex, s', q', ι', rfl, hk, hr⟩
  cases ex with
  | normal => exact ⟨.normal, _, _, _, rfl, hk, hr⟩
  | exit i =>
   simp only [AEx.to, Exit.inBlock]
   simp only at hk
   split at hk
   ·rename_i hb
    rw [if_pos (Nat.eq_of_beq_eq_true hb)]
    exact ⟨.normal, _, _, _, rfl, hk, hr⟩
   ·rename_i hb
    rw [if_neg (Nat.ne_of_beq_eq_false hb)]
    exact ⟨.exit i, _, _, _, rfl, hk, hr⟩
  | ret => exact ⟨.ret, _, _, _, rfl, hk, hr⟩
 | exit i => intro s q k ι a w hx h; exact wp_exit ⟨.exit i, _, _, _, rfl, hx, h⟩
 | ret => intro s q k ι a w hx h; exact wp_ret ⟨.ret, _, _, _, rfl, hx, h⟩
 | loop c ih =>
  intro s q k ι a w hx h
  obtain ⟨s', q', ι', hx, h⟩ := Yet (show Yfa q s _ from hx) h
  split at hx
  ·rename_i m t I outs q1
   obtain ⟨rfl, h1, h2, h3⟩ := hx
   exact wp_loop_rounds (m + 1) (Yst h2 (fun o ho hp ι a w hn hr => by
    obtain ⟨x, hx, e1, e2, e3⟩ := Y11j ho
    rw [<- e1] at hp; rw [<- e3] at hr; rw [<- e2]
    exact ⟨_, _, _, _, rfl, Yxx h3 hx hp, hr⟩) (m + 1) m s' ι' a w (Nat.lt_succ_self _) h1 h)
  ·cases hx
 | _ => intro s q k ι a w hx h; cases (show StuckCode _ from hx)
theorem Ykl.intro (hm : P.follows .mixedOrders = true) {c : Code} {I : Nat -> St -> Prop} {outs : Ywi} (h : ∀ m s, I m s -> ∃ q, Yhd P c s q (Y17z I outs m)) : Ykl P c I outs := by
 intro E m s ι a w hI hr
 obtain ⟨q, hx⟩ := h m s hI
 refine Code.wp_mono ?_ (Ysu hm c hx hr)
 rintro e a' w' ⟨ex, s', q', ι', rfl, hk, hr'⟩
 cases ex with
 | normal =>
  obtain ⟨s2, q2, ι2, hk, hr2⟩ := Yet (show Yfa q' s' _ from hk) hr'
  split at hk
  ·obtain ⟨h1, rfl, h3⟩ := hk
   exact ⟨s2, ι2, hr2, .inl ⟨rfl, _, h1, h3⟩⟩
  ·cases hk
 | exit i =>
  obtain ⟨s2, q2, ι2, hk, hr2⟩ := Yet (show Yfa q' s' _ from hk) hr'
  split at hk
  ·split at hk
   ·rename_i o ho
    split at hk
    ·rename_i hb
     exact ⟨s2, ι2, hr2, .inr ⟨o, List.mem_of_getElem? ho, hk.1, by rw [Y15j hb], by simp [AEx.to], hk.2.symm⟩⟩
    ·cases hk
   ·cases hk
  ·cases hk
 | ret =>
  obtain ⟨s2, q2, ι2, hk, hr2⟩ := Yet (show Yfa q' s' _ from hk) hr'
  split at hk
  ·split at hk
   ·rename_i o ho
    split at hk
    ·rename_i hb
     exact ⟨s2, ι2, hr2, .inr ⟨o, List.mem_of_getElem? ho, hk.1, by rw [Y15j hb], by simp [AEx.to], hk.2.symm⟩⟩
    ·cases hk
   ·cases hk
  ·cases hk
end
end Go.Proofs.YtclpofblehlojaaGreat.Ab
end
section
namespace Go.Proofs.YtclpofblehlojaaGreat.Ab
open Go
def Y181 (P : Program) (s : St) : ResultVar -> Option SV
 | .tmp t => match s.reg t with | .sv x => some x | _ => none
 | .cell ad T => match s.ac (.tmp ad), Yfx P T, Yu8 P T with
  | some c, some n, some ag => match readAt s c n [] with
   | some (l, [], _) => Y10o ag l
   | _ => none
  | _, _, _ => none
def Ytk (P : Program) (s : St) : List ResultVar -> Option (List SV)
 | [] => some []
 | r :: l => match Y181 P s r, Ytk P s l with
  | some x, some y => some (x :: y)
  | _, _ => none
def Y1cq : List SV -> AV
 | [x] => .sv x
 | l => .tup l
def Yrw (a b : List Ob) : Prop := a = b
def Y1bm (P : Program) (rs : List ResultVar) (objs1 : List Ob) (res : AV) : AEx -> St -> List Orc -> Prop
 | .exit _, _, _ => False
 | _, s, q => Yfa q s fun s q => match q with
  | .fin ids :: _ => match Yun s.m (List.range s.m ++ ids), Ytk P s rs with
   | true, some l => Yrw ((List.range s.m ++ ids).map (fun i => (s.obj i).sel (List.range s.m ++ ids))) objs1 /\ (Y1cq l).sel (List.range s.m ++ ids) = res
   | _, _ => StuckFin s
  | _ => StuckFin s
section
variable {P : Program} {E : Ent P} {s : St} {ι : Interp} {a : Act} {w : World}
def Yt9 (tmps : Array Value) : ResultVar -> Sem Value
 | .tmp t => pure (tmps.getD t undef)
 | .cell ad t => do loadVar t (<- asAddr (tmps.getD ad undef))
theorem Y1cs (h : Rel E s ι a w) {r : ResultVar} {x : SV} (e : Y181 P s r = some x) : ∃ v, (Yt9 a.tmps r).run P w = .ok v w /\ Yea w ι s.obj x v := by
 cases r with
 | tmp t =>
  simp only [Y181] at e
  have hr := h.regs t
  split at e
  ·rename_i y hy
   simp only [Option.some.injEq] at e; subst e
   rw [hy] at hr
   exact ⟨_, by simp [Yt9], hr⟩
  ·cases e
 | cell ad T =>
  simp only [Y181] at e
  split at e
  ·rename_i c n ag hc hn hg
   split at e
   ·rename_i l q' hr
    obtain ⟨⟨b, off, xs, hp, hl, hx, ha⟩, _⟩ := Yqv (K := True) h hr (Yef h hc) trivial
    have hp' : a.tmps.getD ad undef = .pointer (some ⟨b, off, none⟩) := by rw [<- hp]; simp [Act.eval]
    have hlen : xs.length = n := by rw [<- ha.length]; exact hl
    rcases Y11a e ha with ⟨rfl, hs⟩ | ⟨rfl, u, rfl, hs⟩
    ·refine ⟨_, ?_, hs⟩
     simp only [Yt9, hp', asAddr, Sem.run_bind, Sem.run_pure, Result.andThen_ok]
     exact Ykd hg hn hlen hx
    ·refine ⟨_, ?_, hs⟩
     simp only [Yt9, hp', asAddr, Sem.run_bind, Sem.run_pure, Result.andThen_ok]
     exact Ynd hg (hx 0 u rfl)
   ·cases e
  ·cases e
theorem Y120 (h : Rel E s ι a w) : ∀ {rs : List ResultVar} {l : List SV}, Ytk P s rs = some l -> ∃ vs, (rs.mapM (Yt9 a.tmps)).run P w = .ok vs w /\ Ydf (Yea w ι s.obj) l vs
 | [], l, e => by simp only [Ytk, Option.some.injEq] at e; subst e; exact ⟨[], by simp, trivial⟩
 | r :: rs, l, e => by
  simp only [Ytk] at e
  split at e
  ·rename_i x y hx hy
   simp only [Option.some.injEq] at e; subst e
   obtain ⟨v, h1, h2⟩ := Y1cs h hx
   obtain ⟨vs, h3, h4⟩ := Y120 h hy
   refine ⟨v :: vs, ?_, h2, h4⟩
   simp only [List.mapM_cons, Sem.run_bind, h1, Result.andThen_ok, h3, Sem.run_pure]
  ·cases e
theorem Y13q (h : Rel E s ι a w) {fn : Func} {rs : List ResultVar} (hf : fn.results = rs.toArray) {l : List SV} (e : Ytk P s rs = some l) :
  ∃ v, (results fn a.tmps).run P w = .ok v w /\ Ye5 w ι s.obj (Y1cq l) v := by
 obtain ⟨vs, h1, h2⟩ := Y120 h e
 have hm : (fn.results.mapM (Yt9 a.tmps)).run P w = .ok vs.toArray w := by
  rw [hf, List.mapM_toArray, map_eq_pure_bind, Sem.run_bind, h1]; rfl
 refine ⟨if hh : vs.toArray.size = 1 then vs.toArray[0] else .tuple vs.toArray, ?_, ?_⟩
 ·have he : results fn a.tmps = (do let vs <- fn.results.mapM (Yt9 a.tmps); pure (if h : vs.size = 1 then vs[0] else .tuple vs)) := by
   unfold results
   congr 1
  rw [he, Sem.run_bind, hm]
  rfl
 ·match l, vs, h2 with
  | [], [], _ => exact ⟨#[], rfl, trivial⟩
  | [x], [v], h2 => exact (show Yea w ι s.obj x _ from by simpa using h2.1)
  | x :: y :: l, v :: u :: vs, h2 => exact ⟨(v :: u :: vs).toArray, by simp, h2⟩
def Yrx (objs0 : List Ob) (args : List SV) (n : Nat) : St := { regs := args.map AV.sv ++ List.replicate (n - args.length) Yk6, objs := objs0, m := objs0.length }
theorem Ygd.intro (hm : P.follows .mixedOrders = true) {f : FuncId} {fn : Func} {c : Code} {objs0 : List Ob} {args : List SV} {objs1 : List Ob} {res : AV} {rs : List ResultVar} (q : List Orc)
    (hc : ∀ xs w, (callFunc f xs).run P w = .ok (.enter f xs) w) (hf : P.funcs[f]? = some fn) (hb : fn.body = some c) (hr : fn.results = rs.toArray) {n : Nat} (hn : fn.ntmps = n)
    (h : Yhd P c (Yrx objs0 args n) q (Y1bm P rs objs1 res)) : Ygd P f objs0 args objs1 res := by
  refine ⟨hc, fun w ι vals hp hkn => ?_⟩
  refine calls_of_wp hf hb ?_
  have hal : args.length = vals.size := by simpa using hp.arg.length
  have hrel : Rel ⟨w, ι, Yep objs0, hkn⟩ (Yrx objs0 args n) ι { tmps := vals ++ Array.replicate (fn.ntmps - vals.size) undef, defers := [] } w := by
    refine { len := ?_, defers := rfl, regs := fun t => ?_, objs := hp.obj, disj := hp.disj, gfp := hp.gfp, own := fun i b hi => .inl ⟨i, hi⟩, lt := hp.lt, glt := hp.glt, frame := fun _ _ _ => rfl, size := Nat.le_refl _, os := rfl, out := rfl,
             ent := fun i => ?_, gg := fun _ hb => hb, gown := fun _ hb => .inl hb, ment := fun i hi => ?_ }
    · simp [Yrx, hal, hn]
    · simp only [Yrx, St.reg, List.getD_eq_getElem?_getD, List.getElem?_append, List.getElem?_map, List.length_map, Array.getD_eq_getD_getElem?, Array.getElem?_append]
      by_cases ht : t < args.length
      · rw [if_pos ht, if_pos (by omega)]
        obtain ⟨v, hv, hrel⟩ := hp.arg.get_left (List.getElem?_eq_getElem ht)
        rw [List.getElem?_eq_getElem ht, <- Array.getElem?_toList, hv]
        exact hrel
      · rw [if_neg ht]
        rw [List.getElem?_replicate]
        split
        · exact Yjp
        · exact Yjp
    · show Yen w w ι ι False i (Yep objs0 i) (Yep objs0 i)
      cases Yep objs0 i <;> simp [Yen]
    · show Yep objs0 i = .free
      simp [Yep, List.getElem?_eq_none (show objs0.length <= i from hi)]
  refine Code.wp_mono ?_ (Ysu hm c h hrel)
  rintro e a' w' ⟨ex, s', q', ι', rfl, hk, hr'⟩
  have main : ∀ {s' : St} {ι' : Interp} {q' : List Orc}, Yfa q' s' (fun s q => match q with
    | .fin ids :: _ => match Yun s.m (List.range s.m ++ ids), Ytk P s rs with
      | true, some l => Yrw ((List.range s.m ++ ids).map (fun i => (s.obj i).sel (List.range s.m ++ ids))) objs1 /\ (Y1cq l).sel (List.range s.m ++ ids) = res
      | _, _ => StuckFin s
    | _ => StuckFin s) -> Rel ⟨w, ι, Yep objs0, hkn⟩ s' ι' a' w' ->
      a'.defers = [] /\ ∃ v, (results fn a'.tmps).run P w' = .ok v w' /\ ∃ v1 ι', Ending.returned v = .returned v1 /\ PostRel w ι objs0 objs1 res w' v1 ι' := by
    intro s' ι' q' hk hr'
    obtain ⟨s2, q2, ι2, hk, h2⟩ := Yet hk hr'
    split at hk
    · rename_i ids qq
      split at hk
      · rename_i l hok hl
        obtain ⟨rfl, rfl⟩ := hk
        obtain ⟨v, h3, h4⟩ := Y13q h2 hr hl
        refine ⟨h2.defers, v, h3, v, Yg9 ι2 (List.range s2.m ++ ids), rfl, ?_⟩
        have h5 := h2.sel [] hok
        have hobj : (s2.sel (List.range s2.m ++ ids) []).obj = Yep ((List.range s2.m ++ ids).map fun i => (s2.obj i).sel (List.range s2.m ++ ids)) := rfl
        have hs : Sel (List.range s2.m ++ ids) s2.obj (s2.sel (List.range s2.m ++ ids) []).obj := ⟨fun j i e => by
          rw [hobj]
          simp only [Yep, List.getD_eq_getElem?_getD, List.getElem?_map, e]; rfl⟩
        exact { ext := h5.ent, obj := h5.objs, disj := h5.disj, gfp := h5.gfp, lt := h5.lt, glt := h5.glt, gg := h5.gg, gown := fun b hb => h5.gown b hb, own := fun j b hb => h5.own j b hb,
                frame := fun b hb hn => h5.frame b hb (fun ⟨i, hi⟩ => hn i hi), size := h5.size, os := h5.os, out := h5.out, val := Ye5.sel hs h4 }
      · cases hk
    · cases hk
  cases ex with
  | normal => exact main hk hr'
  | exit i => exact hk.elim
  | ret => exact main hk hr'
end
end Go.Proofs.YtclpofblehlojaaGreat.Ab
end
section
namespace Go.Proofs.YtclpofblehlojaaGreat.Ab
open Go Go.ChangeShapes
def cI (n : Int) : Cell := .lit (.int .i64 n)
def cB (b : Bool) : Cell := .lit (.bool b)
def cS (s : ByteArray) : Cell := .lit (.string s)
def vI (n : Int) : AC := .val (cI n)
def vB (b : Bool) : AC := .val (cB b)
def vS (s : ByteArray) : AC := .val (cS s)
def vL (es : List (List Cell)) : AC := .val (.list es)
def li (n : Int) : SV := .one (vI n)
def lb (b : Bool) : SV := .one (vB b)
def ls (s : ByteArray) : SV := .one (vS s)
def ll (es : List (List Cell)) : SV := .one (vL es)
def Yf5 (s : ByteArray) : List Cell := [cS s]
def Yd2 (n : Int) : List Cell := [cI n]
def vals (l : List Cell) : List AC := l.map .val
def Ykq : Code -> List Code
 | .seq a b => Ykq a ++ Ykq b
 | .cond _ a b => Ykq a ++ Ykq b
 | .block _ c => Ykq c
 | .loop c => c :: Ykq c
 | _ => []
def Ydg (fn : Func) (i : Nat) : Code := (Ykq (fn.body.getD .skip)).getD i .skip
def Yxd (w : World) : Interp := { G := fun b => b < w.heap.size, blk := fun _ => 0, sl := fun _ => .slice none 0 0, fp := fun _ _ => False }
theorem Ygd.kept {P : Program} {f : FuncId} {args : List SV} {v : Value} (h : Ygd P f [] args [] (.sv (.one (.val (.lit v))))) {w : World} {vals : Array Value}
  (hkn : Kn P w (Yxd w)) (hv : Ydf (Yea w (Yxd w) (Yep [])) args vals.toList) : Calls P f vals w fun e w' => e = .returned v /\ w.kept w' /\ w.heap.size <= w'.heap.size := by
 have hp : PreRel w (Yxd w) [] args vals :=
  { obj := fun j => fun _ hb => hb, disj := fun _ _ _ _ hb => hb.elim, gfp := fun _ _ hb => hb.elim, lt := fun _ _ hb => hb.elim, glt := fun _ hb => hb, arg := hv }
 refine (h.2 w (Yxd w) vals hp hkn).mono ?_
 rintro e w' ⟨u, ι', rfl, hpost⟩
 have hu := (Rd.lit_inv (show Rd w' ι'.G u (.lit v) from hpost.val.1)).1
 refine ⟨by rw [hu], ⟨hpost.os, hpost.out, fun i hi => hpost.frame i hi fun _ hb => hb⟩, hpost.size⟩
section
variable {P : Program} {H : Type} {enc : TypeId × Value -> H}
theorem Y13e {W W' : World} (hk : W.kept W') {a : Addr} (ha : a.block < W.heap.size) : W'.frozen? a = W.frozen? a := by
 unfold World.frozen?; rw [hk.2.2 _ ha]
theorem Y11n {f : Func} {s : ChangeSpec} {apart fresh handsOn again : Bool} {W W' : World} {args : Array Value} {v : Value} {ds gs : List (DataW H)} {before pa pv : List MemPlace}
  (hW : DataW.Whole enc P f.params.toList s.vars apart W args.toList ds gs before)
  (hres : ∀ (b : Nat) (sp : Nat -> Bool) (hd : Bool), DataW.TrodAll enc P W' b sp hd f.resultTypes.toList (v.resultList f.resultTypes.size) (s.fn H (ds ++ gs)).results [])
  (hargs : ∀ sp : Nat -> Bool, (∀ p ∈ before, sp p.block = true) -> DataW.TrodAll enc P W' 0 sp true f.params.toList args.toList (s.fn H (ds ++ gs)).args pa)
  (hvars : ∀ sp : Nat -> Bool, (∀ p ∈ before, sp p.block = true) -> DataW.TrodVars enc P W' sp s.vars (s.fn H (ds ++ gs)).vars pv)
  (hps : before = pa ++ pv) (hk : W.kept W')
  (hok : ∀ (j : Nat) (t : TypeId) (r : Value), f.resultTypes[j]? = some t -> (v.resultList f.resultTypes.size)[j]? = some r -> Value.okWide P W' .any 0 t r) :
  s.post enc P f apart fresh handsOn again W args v W' := by
 have old : ∀ p ∈ before, decide (p.block < W.heap.size) = true := fun p hp => by simpa using hW.lt p hp
 have kb : W.keptBut W' (fun p => p ∈ before /\ (p ∈ ([] : List MemPlace) ∨ p ∈ pa ∨ p ∈ pv)) := World.keptBut_mono (fun _ f => f.elim) (World.keptBut_none_iff.2 hk)
 refine ⟨ds, gs, before, [], pa, pv, hW, hres _ _ _, hargs (fun b => decide (b < W.heap.size)) old, hvars (fun b => decide (b < W.heap.size)) old, kb, fun _ => ?_⟩
 have lt0 := hW.lt
 obtain ⟨_, _, _, _, _, hz, hn⟩ := hW
 refine ⟨hok, _, _, ([] ++ pa) ++ pv, ⟨[] ++ pa, pv, trodAll_append (hargs _ (fun _ _ => rfl)) (hres _ _ _), hvars _ (fun _ _ => rfl), rfl, fun b off hp => ?_, fun ha => ?_⟩, fun p hp _ => ?_⟩
 ·have hb : MemPlace.cell b off ∈ before := by rw [hps]; simpa using hp
  rw [Y13e hk (lt0 _ hb)]
  exact hz b off hb
 ·have := hn ha
  rw [hps] at this
  simpa using this
 ·rw [hps]; simpa using hp
end
end Go.Proofs.YtclpofblehlojaaGreat.Ab
end
