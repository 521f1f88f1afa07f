/- The abstract machine, part 3: the operations that give a value and leave the world. No condition. -/
import Derived.Test.YtamcedjjlokfhaaAb2
namespace Go.Proofs.Ytamcedjjlokfhaa.Ab
open Go

/-- what a step leaves to prove: what it knows, what it asks -/
inductive Item where
  | asm (p : Prop)
  | obl (p : Prop)

def VC : List Item → Prop → Prop
  | [], K => K
  | .asm p :: r, K => p → VC r K
  | .obl p :: r, K => p ∧ VC r K

theorem VC.append : ∀ {l r : List Item} {K : Prop}, VC (l ++ r) K → VC l (VC r K)
  | [], _, _, h => h
  | .asm _ :: l, _, _, h => fun p => VC.append (l := l) (h p)
  | .obl _ :: l, _, _, h => ⟨h.1, VC.append (l := l) h.2⟩

/-! ### tables -/
section tables
variable (P : Program)
def tsize (T : TypeId) : Option Nat := (P.info? T).map (·.size)
def tagg (T : TypeId) : Option Bool := (P.underlying T).map fun d => match d with | .struct _ | .array _ _ => true | _ => false
def tfield (T : TypeId) (f : Nat) : Option (Nat × TypeId × Nat) :=
  match P.underlying T with
  | some (.struct fs) => match fs[f]? with
    | some fd => match tsize P fd.type with | some n => some (fd.offset, fd.type, n) | none => none
    | none => none
  | _ => none
def telem (T : TypeId) : Option TypeId := match P.underlying T with | some (.slice e) => some e | _ => none

variable {P} {w : World}
theorem run_isAgg' {T : TypeId} {b : Bool} (h : tagg P T = some b) : (isAgg T).run P w = .ok b w := by
  unfold tagg at h
  cases hu : P.underlying T with
  | none => simp [hu] at h
  | some d =>
    simp [hu] at h
    simp only [isAgg, Sem.run_bind, run_underlying hu, Result.andThen_ok]
    cases d <;> simp_all

theorem run_sizeOf' {T : TypeId} {n : Nat} (h : tsize P T = some n) : (Go.sizeOf T).run P w = .ok n w := by
  unfold tsize at h
  cases hi : P.info? T with
  | none => simp [hi] at h
  | some i => simp [hi] at h; simp [Go.sizeOf, typeInfo, hi, h]

theorem addr_add (b o j : Nat) : (⟨b, o, none⟩ : Addr).add j = ⟨b, o + j, none⟩ := by unfold Addr.add; split <;> simp_all

theorem run_loadVar_agg {T : TypeId} {n b o : Nat} {xs : List Value} (ha : tagg P T = some true) (hn : tsize P T = some n) (hl : xs.length = n)
    (hx : ∀ (j : Nat) (u : Value), xs[j]? = some u → w.cell? ⟨b, o + j, none⟩ = some u) : (loadVar T ⟨b, o, none⟩).run P w = .ok (.agg xs.toArray) w := by
  have h := run_loadCells_list (P := P) w ⟨b, o, none⟩ xs fun j v hv => by rw [addr_add]; exact hx j v hv
  rw [hl] at h
  simp [loadVar, run_isAgg' ha, run_sizeOf' hn, h]

theorem run_loadVar_one {T : TypeId} {b o : Nat} {u : Value} (ha : tagg P T = some false) (hx : w.cell? ⟨b, o, none⟩ = some u) : (loadVar T ⟨b, o, none⟩).run P w = .ok u w := by
  simp [loadVar, run_isAgg' ha, hx]
end tables

/-! ### operands -/
def litB : Value → Bool
  | .string s => decide (s.size ≤ maxLen)
  | .agg _ | .tuple _ => false
  | _ => true

theorem litB_ok {v : Value} (h : litB v = true) : litOK v := by
  cases v <;> first | trivial | (simp [litB] at h; done) | (simp [litB] at h; exact h)

def St.ev (s : St) : Operand → Option AV
  | .tmp t => match s.reg t with | .sv (.agg []) => none | v => some v
  | .const v => if litB v then some (.sv (.one (.val (.lit v)))) else none
  | .global _ => none
  | .func f => some (.sv (.one (.val (.lit (.func (.func f) #[] #[])))))

section
variable {E : Ent} {s : St} {ι : Interp} {a : Act} {w : World}

theorem ev_rel (h : Rel E s ι a w) {x : Operand} {v : AV} (e : s.ev x = some v) : AVRel w ι s.obj v (a.eval x) := by
  cases x with
  | tmp t =>
    simp only [St.ev] at e
    split at e
    · cases e
    · simp only [Option.some.injEq] at e; subst e; exact h.regs t
  | const u =>
    simp only [St.ev] at e
    split at e
    · simp only [Option.some.injEq] at e; subst e; rename_i hb; exact ⟨.lit (litB_ok hb), fun _ => (litB_ok hb).one⟩
    · cases e
  | global g => simp [St.ev] at e
  | func f => simp only [St.ev, Option.some.injEq] at e; subst e; exact ⟨.lit trivial, fun _ => rfl⟩

def St.ac (s : St) (x : Operand) : Option AC := match s.ev x with | some (.sv (.one c)) => some c | _ => none

theorem ac_rel (h : Rel E s ι a w) {x : Operand} {c : AC} (e : s.ac x = some c) : ACRel w ι s.obj c (a.eval x) := by
  unfold St.ac at e
  split at e
  · simp only [Option.some.injEq] at e; subst e; rename_i he; exact (ev_rel h he).1
  · cases e

def St.lit (s : St) (x : Operand) : Option Value := match s.ac x with | some (.val (.lit v)) => some v | _ => none

theorem lit_rel (h : Rel E s ι a w) {x : Operand} {v : Value} (e : s.lit x = some v) : a.eval x = v ∧ litOK v := by
  unfold St.lit at e
  split at e
  · simp only [Option.some.injEq] at e; subst e; rename_i hac; exact Rd.lit_inv (show Rd w ι.G _ _ from ac_rel h hac)
  · cases e

def St.int (s : St) (x : Operand) : Option (IntKind × Int) := match s.lit x with | some (.int k n) => some (k, n) | _ => none

theorem int_rel (h : Rel E s ι a w) {x : Operand} {k : IntKind} {n : Int} (e : s.int x = some (k, n)) : a.eval x = .int k n := by
  unfold St.int at e
  split at e
  · simp only [Option.some.injEq, Prod.mk.injEq] at e
    obtain ⟨rfl, rfl⟩ := e
    exact (lit_rel h ‹_›).1
  · cases e

inductive Mode where
  | rd
  | own (o : Bool) (sz : Nat)
  | ptr
  | agg (ms : List (Option (Bool × Nat)))
  | map

/-- oracles: the answers that the straight-line run is given, each with something to prove -/
inductive Ghost where
  | sel (ids keep : List Nat)
  | lock (id : Nat)
  | nilreg (t : Nat) (own : Bool) (sz : Nat)
  | nilbox (id k : Nat) (own : Bool) (sz : Nat)
  | nilmreg (t : Nat) (k : MK)
  | nilmbox (id j : Nat) (k : MK)
  | move (id : Nat)

inductive AEx where
  | normal
  | exit (id : Nat)
  | ret

/-- the script of a run: what the walk is told -/
inductive Orc where
  | bool (b : Bool)
  | cells (cs : List Cell)
  | call (ms : List Mode) (objs : List Ob) (res : AV)
  | br (l r : List Orc)
  | ghost (g : Ghost)
  | loop (m : Nat) (t : St) (I : Nat → St → Prop) (outs : List (Prop × AEx × St × List Orc))
  | out (i : Nat)
  | goto (m : Nat) (s : St)
  | fin (ids : List Nat)
  | draw (tids : List (Nat × List Nat))
  | sub
  | bytes (l : List UInt8)
  | take (e : List Cell) (es : List (List Cell)) (sz : Nat)
  | subcall (e : List Cell) (es : List (List Cell)) (sz : Nat)
  | mkmap (k : MK)
  | upd (f : Value → Option Cell)
  | taken (es : List (List Cell)) (sz : Nat) (f : Value → Option Cell)

/-! ### reading memory -/
def cellAC (src : Option Nat) : Cell → AC
  | .lit v => .val (.lit v)
  | .list es => match src with | none => .val (.list es) | some id => .bor id (.list es)
  | .any => .top

theorem cellAC_rel {ob : Nat → Ob} {src : Option Nat} {c : Cell} {u : Value} (hs : ∀ id, src = some id → notFree ob id) (h : Rd w (rdSet ι src) u c) : CRel w ι ob (cellAC src c) u := by
  refine ⟨?_, h.one⟩
  cases c with
  | lit v => obtain ⟨rfl, hv⟩ := h.lit_inv; exact .lit hv
  | list es =>
    cases src with
    | none => exact h
    | some id => exact ⟨hs id rfl, fun _ => h⟩
  | any => trivial

def liveB (s : St) : Option Nat → Bool
  | none => true
  | some id => match s.obj id with | .arr .. => true | .map .. => true | _ => false

theorem liveB_ok {s : St} {src : Option Nat} (h : liveB s src = true) : live s.obj src := by
  cases src with
  | none => trivial
  | some id =>
    unfold liveB at h
    simp only at h
    show (s.obj id).reads
    split at h
    · rename_i own sz es e; rw [e]; trivial
    · rename_i nn k f e; rw [e]; trivial
    · cases h

def readAt (s : St) (x : AC) (n : Nat) (q : List Orc) : Option (List AC × List Item × List Orc) :=
  match x with
  | .ptr id off => match s.obj id with
    | .box cs => if ((cs.drop off).take n).length = n then some ((cs.drop off).take n, [], q) else none
    | _ => none
  | .iptr src cs => if liveB s src = true ∧ (cs.take n).length = n then some ((cs.take n).map (cellAC src), [], q) else none
  | .eptr id i off => match s.obj id with
    | .arr own sz es => match q with
      | .cells e :: q => if ((e.drop off).take n).length = n ∧ e.length = sz then
          some (((e.drop off).take n).map (cellAC (if own then some id else none)), [.obl (es[i]? = some e)], q) else none
      | .sub :: q => if n = 1 ∧ off < sz ∧ own = true then some ([.sub id i off], [.obl (i < es.length)], q) else none
      | _ => none
    | _ => none
  | _ => none

theorem flatten_get {α : Type} {sz : Nat} : ∀ {es : List (List α)}, (∀ e ∈ es, e.length = sz) → ∀ {i k : Nat} {e : List α} {c : α}, es[i]? = some e → e[k]? = some c → es.flatten[i * sz + k]? = some c
  | [], _, i, k, e, c, h, _ => by simp at h
  | x :: es, hsz, 0, k, e, c, h, hk => by
    simp only [List.getElem?_cons_zero, Option.some.injEq] at h
    subst h
    simp only [Nat.zero_mul, Nat.zero_add, List.flatten_cons]
    rw [List.getElem?_append_left (List.getElem?_eq_some_iff.1 hk).1]; exact hk
  | x :: es, hsz, i + 1, k, e, c, h, hk => by
    have hx : x.length = sz := hsz x List.mem_cons_self
    have := flatten_get (es := es) (fun y hy => hsz y (List.mem_cons_of_mem _ hy)) (by simpa using h) hk
    simp only [List.flatten_cons]
    rw [List.getElem?_append_right (by rw [hx, Nat.add_mul]; omega), hx]
    rw [show (i + 1) * sz + k - sz = i * sz + k by rw [Nat.add_mul]; omega]
    exact this

theorem All2.map_left {α β γ : Type} {R : β → γ → Prop} (f : α → β) : ∀ {as : List α} {bs : List γ}, All2 (fun a b => R (f a) b) as bs → All2 R (as.map f) bs
  | [], [], _ => trivial
  | _ :: _, _ :: _, h => ⟨h.1, h.2.map_left f⟩
  | [], _ :: _, h => h.elim
  | _ :: _, [], h => h.elim

theorem All2.flip {α β : Type} {R : α → β → Prop} : ∀ {as : List α} {bs : List β}, All2 R as bs → All2 (fun b a => R a b) bs as
  | [], [], _ => trivial
  | _ :: _, _ :: _, h => ⟨h.1, h.2.flip⟩
  | [], _ :: _, h => h.elim
  | _ :: _, [], h => h.elim

theorem ArrRel.elem {N : (Nat → Prop) → Value → Cell → Prop} {sz : Nat} {F : Nat → Prop} {v : Value} {es : List (List Cell)} (h : ArrRel w N sz F v es) {i : Nat} {e : List Cell} (hi : es[i]? = some e)
    {b : Nat} (hb : v.ownBlock = some b) :
    ∃ ys : List Value, (∀ (k : Nat) (u : Value), ys[k]? = some u → w.cell? ⟨b, i * sz + k, none⟩ = some u) ∧ All2 (fun u c => ∃ F' : Nat → Prop, (∀ x, F' x → F x) ∧ N F' u c) ys e := by
  obtain ⟨ty, xs, Fs, h1, h2, h3, h4, h5, h6, h7, _⟩ := h
  have hl : xs.length = es.flatten.length := by rw [h1.1, flatten_length h2]
  have he : e.length = sz := h2 e (List.mem_of_getElem? hi)
  have hpos : ∀ (k : Nat) (c : Cell), e[k]? = some c → es.flatten[i * sz + k]? = some c := fun k c hk => flatten_get h2 hi hk
  have hlt : ∀ k, k < sz → i * sz + k < xs.length := by
    intro k hk
    rw [hl]
    obtain ⟨c, hc⟩ : ∃ c, e[k]? = some c := ⟨e[k]'(by omega), List.getElem?_eq_getElem _⟩
    exact (List.getElem?_eq_some_iff.1 (hpos k c hc)).1
  have hcells := World.ownsRow.cells (g := b) h1 hb
  refine ⟨(xs.drop (i * sz)).take sz, ?_, ?_⟩
  · intro k u hu
    rw [List.getElem?_take] at hu
    split at hu
    · rw [List.getElem?_drop] at hu
      have := hcells (i * sz + k) u hu
      rw [addr_add] at this
      simpa using this
    · cases hu
  · refine All2.of_get ?_ ?_
    · rw [List.length_take, List.length_drop, he]
      rcases Nat.eq_zero_or_pos sz with h0 | h0
      · omega
      · have := hlt (sz - 1) (by omega)
        omega
    · intro k u c hu hc
      rw [List.getElem?_take] at hu
      split at hu
      · rw [List.getElem?_drop] at hu
        exact ⟨Fs (i * sz + k), h4 _, h7 _ u c hu (hpos k c hc)⟩
      · cases hu

theorem readAt_sound (h : Rel E s ι a w) {x : AC} {n : Nat} {q q' : List Orc} {l : List AC} {it : List Item} {K : Prop} (e : readAt s x n q = some (l, it, q')) {v : Value} (hv : ACRel w ι s.obj x v)
    (vc : VC it K) : (∃ b o xs, v = .pointer (some ⟨b, o, none⟩) ∧ l.length = n ∧ (∀ (j : Nat) (u : Value), xs[j]? = some u → w.cell? ⟨b, o + j, none⟩ = some u) ∧ All2 (CRel w ι s.obj) l xs) ∧ K := by
  unfold readAt at e
  split at e
  · rename_i id off
    split at e
    · rename_i cs ho
      split at e
      · rename_i hn
        simp only [Option.some.injEq, Prod.mk.injEq] at e
        obtain ⟨rfl, rfl, rfl⟩ := e
        have hob := h.objs id
        rw [ho] at hob
        obtain ⟨_, arr, ty, hheap, ha⟩ := hob
        refine ⟨⟨ι.blk id, off, (arr.toList.drop off).take n, hv.2 _ ho, hn, ?_, (ha.drop off).take n⟩, vc⟩
        intro j u hu
        rw [List.getElem?_take] at hu
        split at hu
        · rw [List.getElem?_drop] at hu
          rw [cell_of_row w _ _ arr ty (0, 0) hheap]
          simpa using hu
        · cases hu
      · cases e
    · cases e
  · rename_i src cs
    split at e
    · rename_i hn
      simp only [Option.some.injEq, Prod.mk.injEq] at e
      obtain ⟨rfl, rfl, rfl⟩ := e
      obtain ⟨b, o, xs, hp, hb, hx, ha⟩ := hv.2 (liveB_ok hn.1)
      refine ⟨⟨b, o, xs.take n, hp, by simpa using hn.2, fun j u hu => hx j u ?_, ?_⟩, vc⟩
      · rw [List.getElem?_take] at hu
        split at hu
        · exact hu
        · cases hu
      · exact All2.map_left _ ((ha.take n).flip.imp fun c u hc => cellAC_rel (fun id e => hv.1 id e) hc)
    · cases e
  · rename_i id i off
    split at e
    · rename_i own sz es ho
      split at e
      · rename_i el q0
        split at e
        · rename_i hn
          simp only [Option.some.injEq, Prod.mk.injEq] at e
          obtain ⟨rfl, rfl, rfl⟩ := e
          obtain ⟨hel, vc⟩ := vc
          have hob := h.objs id
          rw [ho] at hob
          obtain ⟨b, hb, hp⟩ := hv.2 _ _ _ ho
          obtain ⟨ys, hy, ha⟩ := ArrRel.elem hob hel hb
          refine ⟨⟨b, i * sz + off, (ys.drop off).take n, hp, by simpa using hn.1, ?_, ?_⟩, vc⟩
          · intro j u hu
            rw [List.getElem?_take] at hu
            split at hu
            · rw [List.getElem?_drop] at hu
              have := hy (off + j) u hu
              rwa [Nat.add_assoc]
            · cases hu
          · refine All2.map_left _ ((((ha.drop off).take n).flip).imp fun c u hc => ?_)
            obtain ⟨F', hF, hN⟩ := hc
            cases own with
            | true => exact cellAC_rel (fun id' e => by cases e; exact hv.1) (OwnC.toRd hN fun b hb => .inr (hF b hb))
            | false => exact cellAC_rel (fun id' e => by cases e) hN
        · cases e
      · split at e
        · rename_i hn
          obtain ⟨rfl, hoff, rfl⟩ := hn
          simp only [Option.some.injEq, Prod.mk.injEq] at e
          obtain ⟨rfl, rfl, rfl⟩ := e
          obtain ⟨hlt, vc⟩ := vc
          have hob := h.objs id
          rw [ho] at hob
          obtain ⟨b, hb, hp⟩ := hv.2 _ _ _ ho
          have hel : es[i]? = some es[i] := List.getElem?_eq_getElem hlt
          obtain ⟨ys, hy, ha⟩ := ArrRel.elem hob hel hb
          obtain ⟨e0, xs, Fs, h1, h2, h3, _⟩ := hob
          have hsz : es[i].length = sz := h2 _ (List.getElem_mem hlt)
          have hyl : off < ys.length := by rw [ha.length, hsz]; exact hoff
          obtain ⟨c, hc, hrel⟩ := ha.get_left (List.getElem?_eq_getElem hyl)
          have hcell := hy off _ (List.getElem?_eq_getElem hyl)
          refine ⟨⟨b, i * sz + off, [ys[off]], hp, rfl, fun j u hu => ?_, ⟨⟨hv.1, fun own sz1 es1 ho1 => ?_⟩, ?_⟩, trivial⟩, vc⟩
          · cases j with
            | zero => simp at hu; subst hu; simpa using hcell
            | succ j => simp at hu
          · rw [ho] at ho1
            simp only [Ob.arr.injEq] at ho1
            obtain ⟨rfl, rfl, rfl⟩ := ho1
            exact ⟨b, hb, .inr (h3 b hb), hcell⟩
          · obtain ⟨F', _, hN⟩ := hrel
            exact Nest.one hN
        · cases e
      · cases e
    · cases e
  · cases e

end
end Go.Proofs.Ytamcedjjlokfhaa.Ab
