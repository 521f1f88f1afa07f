/- The abstract machine, part 2: the relation between an abstract state and a concrete frame and world, and how it is kept. No condition. -/
import Derived.Test.YtamcedjjlokfhaaAb1
namespace Go.Proofs.Ytamcedjjlokfhaa.Ab
open Go

def ArrRel (w : World) (N : (Nat → Prop) → Value → Cell → Prop) (sz : Nat) (F : Nat → Prop) (v : Value) (es : List (List Cell)) : Prop :=
  ∃ (e : TypeId) (xs : List Value) (Fs : Nat → Nat → Prop), w.ownsRow 0 e sz v es.length xs ∧ (∀ x ∈ es, x.length = sz) ∧ (∀ b, v.ownBlock = some b → F b) ∧
    (∀ j b, Fs j b → F b) ∧ (∀ j b, v.ownBlock = some b → ¬ Fs j b) ∧ (∀ j j' b, j ≠ j' → Fs j b → ¬ Fs j' b) ∧
    (∀ (j : Nat) (u : Value) (c : Cell), xs[j]? = some u → es.flatten[j]? = some c → N (Fs j) u c) ∧ cap0 v es

def Nest (w : World) (G : Nat → Prop) : Bool → (Nat → Prop) → Value → Cell → Prop
  | true, F, u, c => OwnC w F u c
  | false, _, u, c => Rd w G u c

theorem Nest.one {w : World} {G : Nat → Prop} {own : Bool} {F : Nat → Prop} {u : Value} {c : Cell} (h : Nest w G own F u c) : u.oneCell' = true := by
  cases own
  · exact Rd.one h
  · exact OwnC.one h

theorem Nest.toRd {w : World} {G : Nat → Prop} {own : Bool} {F : Nat → Prop} {u : Value} {c : Cell} (h : Nest w G own F u c) : Rd w (fun b => G b ∨ F b) u c := by
  cases own
  · exact Rd.mono (fun _ _ => rfl) (fun _ h => .inl h) h
  · exact OwnC.toRd h fun _ h => .inr h

theorem Nest.mono {w w' : World} {G G' : Nat → Prop} {own : Bool} {F : Nat → Prop} {u : Value} {c : Cell} (h : Nest w G own F u c)
    (hG : ∀ b, G b → G' b ∧ w'.heap[b]? = w.heap[b]?) (hF : ∀ b, F b → w'.heap[b]? = w.heap[b]?) : Nest w' G' own F u c := by
  cases own
  · exact Rd.mono (fun b hb => (hG b hb).2) (fun b hb => (hG b hb).1) h
  · exact OwnC.mono h hF

theorem ArrRel.rd {w : World} {G : Nat → Prop} {own : Bool} {sz : Nat} {F : Nat → Prop} {v : Value} {es : List (List Cell)} (h : ArrRel w (Nest w G own) sz F v es) :
    Rd w (fun b => G b ∨ F b) v (.list es) := by
  obtain ⟨e, xs, Fs, h1, h2, h3, h4, h5, h6, h7, _⟩ := h
  refine rd_of_row h1 h2 (fun b hb => .inr (h3 b hb)) fun j u c hu hc => ?_
  exact Rd.mono (fun _ _ => rfl) (fun b hb => hb.imp id (h4 j b)) (h7 j u c hu hc).toRd

theorem ArrRel.own {w : World} {G : Nat → Prop} {sz : Nat} {F : Nat → Prop} {v : Value} {es : List (List Cell)} (h : ArrRel w (Nest w G true) sz F v es) : OwnC w F v (.list es) := by
  obtain ⟨e, xs, Fs, h1, h2, h3, h4, h5, h6, h7, h0⟩ := h
  exact .arr h1 h2 h3 h4 h5 h6 h7 h0

theorem ArrRel.mono {w w' : World} {G G' : Nat → Prop} {own : Bool} {sz : Nat} {F : Nat → Prop} {v : Value} {es : List (List Cell)} (h : ArrRel w (Nest w G own) sz F v es)
    (hG : ∀ b, G b → G' b ∧ w'.heap[b]? = w.heap[b]?) (hF : ∀ b, F b → w'.heap[b]? = w.heap[b]?) : ArrRel w' (Nest w' G' own) sz F v es := by
  obtain ⟨e, xs, Fs, h1, h2, h3, h4, h5, h6, h7, h0⟩ := h
  exact ⟨e, xs, Fs, ownsRow_heap (fun b hb => hF b (h3 b hb)) h1, h2, h3, h4, h5, h6, fun j u c hu hc => (h7 j u c hu hc).mono hG fun b hb => hF b (h4 j b hb), h0⟩


def Empt (z : Option Value) (o : Option Cell) : Prop := o = none ∨ ∃ v, z = some v ∧ litOK v ∧ (o = some (normLit v) ∨ o = some .any)

/-- a block that holds a map: each key that is in it has its element, whose slices lie in blocks of their own -/
def MapRel (w : World) (k : MK) (F : Nat → Prop) (b : Nat) (f : Value → Option Cell) : Prop :=
  ∃ (es : Array MapEntry) (clock : Nat) (Fs : Nat → Nat → Prop), w.heap[b]? = some (.map es clock) ∧ F b ∧ (∀ j x, Fs j x → F x ∧ x ≠ b) ∧ (∀ j j' x, j ≠ j' → Fs j x → ¬ Fs j' x) ∧
    (∀ e ∈ es.toList, MapKept.IsKey k.d e.key) ∧ (es.toList.map (·.key)).Nodup ∧
    (∀ key, MapKept.IsKey k.d key → (∀ e ∈ es.toList, e.key ≠ key) → Empt k.z (f key)) ∧
    (∀ (j : Nat) (e : MapEntry), es[j]? = some e → ∃ c, f e.key = some c ∧ OwnC w (Fs j) e.val c)

theorem MapRel.mono {w w' : World} {k : MK} {F F' : Nat → Prop} {b : Nat} {f : Value → Option Cell} (h : MapRel w k F b f) (hF : ∀ x, F x → F' x) (hw : ∀ x, F x → w'.heap[x]? = w.heap[x]?) : MapRel w' k F' b f := by
  obtain ⟨es, clock, Fs, h1, h2, h3, h4, h5, h6, h7, h8⟩ := h
  refine ⟨es, clock, Fs, by rw [hw _ h2]; exact h1, hF _ h2, fun j x hx => ⟨hF _ (h3 j x hx).1, (h3 j x hx).2⟩, h4, h5, h6, h7, fun j e he => ?_⟩
  obtain ⟨c, e1, e2⟩ := h8 j e he
  exact ⟨c, e1, e2.mono fun x hx => hw x (h3 j x hx).1⟩

def ObRel (w : World) (ι : Interp) (ob : Nat → Ob) (id : Nat) : Ob → Prop
  | .free | .dead => ∀ b, ¬ ι.fp id b
  | .box cs => ι.fp id (ι.blk id) ∧ ∃ (arr : Array Value) (ty : TypeId), w.heap[ι.blk id]? = some (.cells arr ty (0, 0)) ∧ All2 (CRel w ι ob) cs arr.toList
  | .arr own sz es => ArrRel w (Nest w ι.G own) sz (ι.fp id) (ι.sl id) es
  | .map nn k f => match nn with
    | true => (∀ b, ¬ ι.fp id b) ∧ ∀ key, MapKept.IsKey k.d key → Empt k.z (f key)
    | false => MapRel w k (ι.fp id) (ι.blk id) f

/-! ### steps -/

/-- K: the objects of which what is borrowed stays readable -/
def OStep (w w' : World) (ι ι' : Interp) (K : Prop) (id : Nat) : Ob → Ob → Prop
  | .free, _ => True
  | .dead, .dead => True
  | .box _, .box _ => ι'.blk id = ι.blk id
  | .box _, .dead => True
  | .arr _ sz _, .arr _ sz' _ => ι'.sl id = ι.sl id ∧ sz' = sz ∧ (K → ∀ b, ι.fp id b → (ι'.fp id b ∨ ι'.G b) ∧ w'.heap[b]? = w.heap[b]?)
  | .arr .., .dead => True
  | .map nn k _, .map nn' k' _ => ι'.blk id = ι.blk id ∧ nn' = nn ∧ k' = k ∧ (K → ∀ b, ι.fp id b → (ι'.fp id b ∨ ι'.G b) ∧ w'.heap[b]? = w.heap[b]?)
  | .map .., .dead => True
  | _, _ => False

/-- the world and the objects as the function was entered -/
structure Ent where
  w : World
  ι : Interp
  ob : Nat → Ob

/-- what the function may write of what was there -/
def Ent.M (E : Ent) (b : Nat) : Prop := ∃ i, E.ι.fp i b

structure Rel (E : Ent) (s : St) (ι : Interp) (a : Act) (w : World) : Prop where
  len : s.regs.length = a.tmps.size
  defers : a.defers = []
  regs : ∀ t, AVRel w ι s.obj (s.reg t) (a.tmps.getD t undef)
  objs : ∀ i, ObRel w ι s.obj i (s.obj i)
  disj : ∀ i j b, i ≠ j → ι.fp i b → ¬ ι.fp j b
  gfp : ∀ i b, ι.fp i b → ¬ ι.G b
  own : ∀ i b, ι.fp i b → E.M b ∨ E.w.heap.size ≤ b
  lt : ∀ i b, ι.fp i b → b < w.heap.size
  glt : ∀ b, ι.G b → b < w.heap.size
  frame : ∀ b, b < E.w.heap.size → ¬ E.M b → w.heap[b]? = E.w.heap[b]?
  size : E.w.heap.size ≤ w.heap.size
  os : w.os = E.w.os
  out : w.output = E.w.output
  ent : ∀ i, OStep E.w w E.ι ι False i (E.ob i) (s.obj i)
  gg : ∀ b, E.ι.G b → ι.G b
  gown : ∀ b, ι.G b → E.ι.G b ∨ E.M b ∨ E.w.heap.size ≤ b
  ment : ∀ i, s.m ≤ i → E.ob i = .free

theorem OStep.trans {w0 w w' : World} {ι0 ι ι' : Interp} {K : Prop} {i : Nat} {o1 o2 o3 : Ob} (h : OStep w0 w ι0 ι False i o1 o2) (k : OStep w w' ι ι' K i o2 o3) : OStep w0 w' ι0 ι' False i o1 o3 := by
  cases o1 <;> cases o2 <;> cases o3 <;> simp_all [OStep]

structure Ext (K : Nat → Prop) (w : World) (ι : Interp) (ob : Nat → Ob) (w' : World) (ι' : Interp) (ob' : Nat → Ob) : Prop where
  g : ∀ b, ι.G b → ι'.G b ∧ w'.heap[b]? = w.heap[b]?
  o : ∀ id, OStep w w' ι ι' (K id) id (ob id) (ob' id)

section
variable {K : Nat → Prop} {w w' : World} {ι ι' : Interp} {ob ob' : Nat → Ob}

theorem Ext.keepsNotFree (h : Ext K w ι ob w' ι' ob') {id : Nat} (k : notFree ob id) : notFree ob' id := by
  have := h.o id
  unfold notFree at *
  cases e : ob id <;> cases e' : ob' id <;> simp_all [OStep]

theorem Ext.arr_inv (h : Ext K w ι ob w' ι' ob') {id : Nat} (k : notFree ob id) {own : Bool} {sz : Nat} {es : List (List Cell)} (e' : ob' id = .arr own sz es) :
    ∃ own1 es1, ob id = .arr own1 sz es1 ∧ ι'.sl id = ι.sl id ∧ (K id → ∀ b, ι.fp id b → (ι'.fp id b ∨ ι'.G b) ∧ w'.heap[b]? = w.heap[b]?) := by
  have := h.o id
  unfold notFree at k
  rw [e'] at this
  cases e : ob id with
  | free => simp [e] at k
  | dead => simp [e, OStep] at this
  | box cs => simp [e, OStep] at this
  | map nn k f => simp [e, OStep] at this
  | arr o1 s1 e1 =>
    simp only [e, OStep] at this
    obtain ⟨h1, rfl, h3⟩ := this
    exact ⟨o1, e1, rfl, h1, h3⟩

theorem Ext.reads_inv (h : Ext K w ι ob w' ι' ob') {id : Nat} (k : notFree ob id) (e' : (ob' id).reads) :
    (ob id).reads ∧ (K id → ∀ b, ι.fp id b → (ι'.fp id b ∨ ι'.G b) ∧ w'.heap[b]? = w.heap[b]?) := by
  have := h.o id
  unfold notFree at k
  cases e2 : ob' id <;> simp only [e2, Ob.reads] at e' <;> cases e : ob id <;> simp_all [OStep, Ob.reads]

theorem Ext.live_inv (h : Ext K w ι ob w' ι' ob') {src : Option Nat} (hs : ∀ id, src = some id → notFree ob id) (k : live ob' src) : live ob src := by
  cases src with
  | none => trivial
  | some id =>
    exact (h.reads_inv (hs id rfl) k).1

theorem Ext.rdSet (h : Ext K w ι ob w' ι' ob') {src : Option Nat} (hs : ∀ id, src = some id → notFree ob id) (hk : ∀ id, src = some id → K id) (k : live ob' src) :
    ∀ b, rdSet ι src b → rdSet ι' src b ∧ w'.heap[b]? = w.heap[b]? := by
  intro b hb
  cases src with
  | none => exact h.g b hb
  | some id =>
    have h3 := (h.reads_inv (hs id rfl) k).2
    rcases hb with hb | hb
    · exact ⟨.inl (h.g b hb).1, (h.g b hb).2⟩
    · have := h3 (hk id rfl) b hb
      exact ⟨this.1.elim .inr .inl, this.2⟩

def AC.src : AC → Option Nat
  | .bor id _ => some id
  | .iptr src _ => src
  | .sub id _ _ => some id
  | _ => none

theorem ACRel.ext (h : Ext K w ι ob w' ι' ob') {c : AC} {v : Value} (hk : ∀ id, c.src = some id → K id) (r : ACRel w ι ob c v) : ACRel w' ι' ob' c v := by
  cases c with
  | top => trivial
  | val c => exact Rd.mono (fun b hb => (h.g b hb).2) (fun b hb => (h.g b hb).1) r
  | ref id =>
    refine ⟨h.keepsNotFree r.1, fun own sz es e' => ?_⟩
    obtain ⟨o1, e1, e2, e3, _⟩ := h.arr_inv r.1 e'
    rw [e3]; exact r.2 _ _ _ e2
  | bor id c =>
    refine ⟨h.keepsNotFree r.1, fun hl => ?_⟩
    have hs : ∀ i, some id = some i → notFree ob i := fun i e => by cases e; exact r.1
    have hr := h.rdSet hs hk hl
    exact Rd.mono (fun b hb => (hr b hb).2) (fun b hb => (hr b hb).1) (r.2 (h.live_inv hs hl))
  | ptr id off =>
    refine ⟨h.keepsNotFree r.1, fun cs e' => ?_⟩
    have := h.o id
    have hn := r.1
    unfold notFree at hn
    rw [e'] at this
    cases e : ob id with
    | free => simp [e] at hn
    | dead => simp [e, OStep] at this
    | arr o1 s1 e1 => simp [e, OStep] at this
    | map nn k f => simp [e, OStep] at this
    | box cs1 =>
      simp only [e, OStep] at this
      rw [this]; exact r.2 _ e
  | eptr id i off =>
    refine ⟨h.keepsNotFree r.1, fun own sz es e' => ?_⟩
    obtain ⟨o1, e1, e2, e3, _⟩ := h.arr_inv r.1 e'
    rw [e3]; exact r.2 _ _ _ e2
  | iptr src cs =>
    refine ⟨fun id e => h.keepsNotFree (r.1 id e), fun hl => ?_⟩
    have hr := h.rdSet r.1 hk hl
    obtain ⟨b, o, xs, e, hb, hx, ha⟩ := r.2 (h.live_inv r.1 hl)
    exact ⟨b, o, xs, e, (hr b hb).1, fun j u hu => (cell_of_heap (hr b hb).2).trans (hx j u hu), ha.imp fun x c hc => Rd.mono (fun b hb => (hr b hb).2) (fun b hb => (hr b hb).1) hc⟩
  | sub id i p =>
    refine ⟨h.keepsNotFree r.1, fun own sz es e' => ?_⟩
    obtain ⟨o1, e1, e2, e3, _⟩ := h.arr_inv r.1 e'
    obtain ⟨b, h1, h2, h3⟩ := r.2 _ _ _ e2
    have hs : ∀ i, some id = some i → notFree ob i := fun i e => by cases e; exact r.1
    have hr := h.rdSet hs hk (by show (ob' id).reads; rw [e']; trivial) b h2
    exact ⟨b, by rw [e3]; exact h1, hr.1, (cell_of_heap hr.2).trans h3⟩
  | mref id =>
    refine ⟨h.keepsNotFree r.1, fun nn k f e' => ?_⟩
    have := h.o id
    have hn := r.1
    unfold notFree at hn
    rw [e'] at this
    cases e : ob id with
    | free => simp [e] at hn
    | dead => simp [e, OStep] at this
    | arr o1 s1 e1 => simp [e, OStep] at this
    | box cs1 => simp [e, OStep] at this
    | map nn1 k1 f1 =>
      simp only [e, OStep] at this
      rw [this.1, this.2.1]; exact r.2 _ _ _ e

def SV.acs : SV → List AC
  | .one c => [c]
  | .agg cs => cs
def AV.acs : AV → List AC
  | .sv s => s.acs
  | .tup l => l.flatMap SV.acs

theorem All2.impMem {α β : Type} {R S : α → β → Prop} : ∀ {as : List α} {bs : List β}, (∀ a b, a ∈ as → R a b → S a b) → All2 R as bs → All2 S as bs
  | [], [], _, _ => trivial
  | _ :: _, _ :: _, hi, h => ⟨hi _ _ List.mem_cons_self h.1, All2.impMem (fun a b ha => hi a b (List.mem_cons_of_mem _ ha)) h.2⟩
  | [], _ :: _, _, h => h.elim
  | _ :: _, [], _, h => h.elim

theorem SVRel.ext (h : Ext K w ι ob w' ι' ob') {x : SV} {v : Value} (hk : ∀ c ∈ x.acs, ∀ id, c.src = some id → K id) (r : SVRel w ι ob x v) : SVRel w' ι' ob' x v := by
  cases x with
  | one c => exact ⟨ACRel.ext h (hk c (by simp [SV.acs])) r.1, r.2⟩
  | agg cs =>
    obtain ⟨arr, e, ha⟩ := r
    exact ⟨arr, e, ha.impMem fun c u hm hc => ⟨ACRel.ext h (hk c hm) hc.1, hc.2⟩⟩

theorem AVRel.ext (h : Ext K w ι ob w' ι' ob') {x : AV} {v : Value} (hk : ∀ c ∈ x.acs, ∀ id, c.src = some id → K id) (r : AVRel w ι ob x v) : AVRel w' ι' ob' x v := by
  cases x with
  | sv s => exact SVRel.ext h hk r
  | tup l =>
    obtain ⟨arr, e, ha⟩ := r
    exact ⟨arr, e, ha.impMem fun c u hm hc => SVRel.ext h (fun x hx => hk x (List.mem_flatMap.2 ⟨c, hm, hx⟩)) hc⟩

/-- object id has not been touched -/
def Unch (w w' : World) (ι ι' : Interp) (id : Nat) : Prop :=
  ι'.blk id = ι.blk id ∧ ι'.sl id = ι.sl id ∧ (∀ b, ι'.fp id b ↔ ι.fp id b) ∧ ∀ b, ι.fp id b → w'.heap[b]? = w.heap[b]?

def Ob.acs : Ob → List AC
  | .box cs => cs
  | _ => []

theorem ObRel.keep (h : Ext K w ι ob w' ι' ob') {id : Nat} {o : Ob} (hk : ∀ c ∈ o.acs, ∀ id, c.src = some id → K id) (u : Unch w w' ι ι' id) (r : ObRel w ι ob id o) : ObRel w' ι' ob' id o := by
  obtain ⟨u1, u2, u3, u4⟩ := u
  cases o with
  | free => exact fun b hb => r b ((u3 b).1 hb)
  | dead => exact fun b hb => r b ((u3 b).1 hb)
  | box cs =>
    obtain ⟨r1, arr, ty, r2, r3⟩ := r
    refine ⟨by rw [u1]; exact (u3 _).2 r1, arr, ty, by rw [u1, u4 _ r1]; exact r2, r3.impMem fun c v hm hc => ⟨ACRel.ext h (hk c hm) hc.1, hc.2⟩⟩
  | arr own sz es =>
    have hf : ι'.fp id = ι.fp id := funext fun b => propext (u3 b)
    unfold ObRel at *
    rw [u2, hf]
    exact ArrRel.mono r h.g u4
  | map nn k f =>
    unfold ObRel at *
    cases nn with
    | true => exact ⟨fun b hb => r.1 b ((u3 b).1 hb), r.2⟩
    | false =>
      simp only at *
      rw [u1]
      exact r.mono (fun x hx => (u3 x).2 hx) u4

end

/-- the whole relation behind a step that leaves the registers -/
theorem Rel.step {E : Ent} {s : St} {ι : Interp} {a : Act} {w : World} (h : Rel E s ι a w) {K : Nat → Prop} {s' : St} {ι' : Interp} {w' : World}
    (hx : Ext K w ι s.obj w' ι' s'.obj)
    (hreg : ∀ t, (s'.reg t = s.reg t ∧ ∀ c ∈ (s.reg t).acs, ∀ id, c.src = some id → K id) ∨ AVRel w' ι' s'.obj (s'.reg t) (a.tmps.getD t undef))
    (hlen : s'.regs.length = s.regs.length) (hm : s'.m = s.m)
    (hobj : ∀ i, (s'.obj i = s.obj i ∧ Unch w w' ι ι' i ∧ ∀ c ∈ (s.obj i).acs, ∀ id, c.src = some id → K id) ∨ ObRel w' ι' s'.obj i (s'.obj i))
    (disj : ∀ i j b, i ≠ j → ι'.fp i b → ¬ ι'.fp j b) (gfp : ∀ i b, ι'.fp i b → ¬ ι'.G b) (own : ∀ i b, ι'.fp i b → E.M b ∨ E.w.heap.size ≤ b)
    (lt : ∀ i b, ι'.fp i b → b < w'.heap.size) (glt : ∀ b, ι'.G b → b < w'.heap.size)
    (frame : ∀ b, b < E.w.heap.size → ¬ E.M b → w'.heap[b]? = w.heap[b]?) (size : w.heap.size ≤ w'.heap.size) (os : w'.os = w.os) (out : w'.output = w.output)
    (hG : ∀ b, ι'.G b → ι.G b ∨ (∃ i, ι.fp i b) ∨ w.heap.size ≤ b := by exact fun _ hb => .inl hb) :
    Rel E s' ι' a w' where
  len := hlen.trans h.len
  defers := h.defers
  regs t := (hreg t).elim (fun ⟨e, hk⟩ => by rw [e]; exact AVRel.ext hx hk (h.regs t)) id
  objs i := (hobj i).elim (fun ⟨e, hu, hk⟩ => by rw [e]; exact ObRel.keep hx hk hu (h.objs i)) id
  disj := disj
  gfp := gfp
  own := own
  lt := lt
  glt := glt
  frame b hb hm := (frame b hb hm).trans (h.frame b hb hm)
  size := Nat.le_trans h.size size
  os := os.trans h.os
  out := out.trans h.out
  ent i := (h.ent i).trans (hx.o i)
  gg b hb := (hx.g b (h.gg b hb)).1
  gown b hb := by
    rcases hG b hb with h1 | ⟨i, h1⟩ | h1
    · exact h.gown b h1
    · exact .inr (h.own i b h1)
    · exact .inr (.inr (Nat.le_trans h.size h1))
  ment i hi := h.ment i (by rw [← hm]; exact hi)

def St.put (s : St) (dst : Option Nat) (v : AV) : St :=
  match dst with
  | some d => { s with regs := s.regs.set d v }
  | none => s

theorem St.obj_put (s : St) (dst : Option Nat) (v : AV) : (s.put dst v).obj = s.obj := by cases dst <;> rfl

theorem Rel.put {E : Ent} {s : St} {ι : Interp} {a : Act} {w : World} (h : Rel E s ι a w) (dst : Option Nat) {x : AV} {v : Value} (hv : AVRel w ι s.obj x v) :
    Rel E (s.put dst x) ι (a.put dst v) w := by
  cases dst with
  | none => exact h
  | some d =>
    have hl := h.len
    refine { len := ?_, defers := h.defers, regs := fun t => ?_, objs := h.objs, disj := h.disj, gfp := h.gfp, own := h.own, lt := h.lt, glt := h.glt, frame := h.frame, size := h.size, os := h.os, out := h.out, ent := fun i => by rw [St.obj_put]; exact h.ent i, gg := h.gg, gown := h.gown, ment := h.ment }
    · simp [St.put, Act.put, hl]
    · have ht := h.regs t
      show AVRel w ι s.obj _ _
      simp only [St.put, Act.put, St.reg, List.getD_eq_getElem?_getD, List.getElem?_set, Array.getD_eq_getD_getElem?, Array.getElem?_setIfInBounds]
      simp only [St.reg, List.getD_eq_getElem?_getD, Array.getD_eq_getD_getElem?] at ht
      by_cases hd : d = t
      · subst hd
        by_cases hs : d < a.tmps.size
        · simp [hl, hs, hv]
        · have e1 : s.regs[d]? = none := by simp; omega
          have e2 : a.tmps[d]? = none := by simp; omega
          simp [hl, hs]
          exact ⟨trivial, fun h => (h rfl).elim⟩
      · simp [hd, ht]

end Go.Proofs.Ytamcedjjlokfhaa.Ab
