/- The abstract machine, part 15: contracts, and what a call is handed. No condition. -/
import Derived.Test.YtamcedjjlokfhaaAb14
namespace Go.Proofs.Ytamcedjjlokfhaa.Ab
open Go
set_option linter.unusedVariables false

def AC.ren (f : Nat → Nat) : AC → AC
  | .ref j => .ref (f j)
  | .bor j c => .bor (f j) c
  | .ptr j o => .ptr (f j) o
  | .eptr j i o => .eptr (f j) i o
  | .iptr src cs => .iptr (src.map f) cs
  | .sub j i p => .sub (f j) i p
  | .mref j => .mref (f j)
  | c => c
def SV.ren (f : Nat → Nat) : SV → SV
  | .one c => .one (c.ren f)
  | .agg cs => .agg (cs.map (AC.ren f))
def AV.ren (f : Nat → Nat) : AV → AV
  | .sv x => .sv (x.ren f)
  | .tup l => .tup (l.map (SV.ren f))
def Ob.ren (f : Nat → Nat) : Ob → Ob
  | .box cs => .box (cs.map (AC.ren f))
  | o => o

/-- holds whatever the blocks that nobody writes -/
def AC.noG : AC → Bool
  | .val (.lit _) | .ref _ | .ptr .. | .eptr .. | .top | .mref _ => true
  | _ => false

structure Tr (f : Nat → Nat) (ι1 : Interp) (ob1 : Nat → Ob) (ι2 : Interp) (ob2 : Nat → Ob) : Prop where
  o : ∀ j, notFree ob1 j → ob2 (f j) = (ob1 j).ren f ∧ ι2.blk (f j) = ι1.blk j ∧ ι2.sl (f j) = ι1.sl j ∧ ∀ b, ι2.fp (f j) b ↔ ι1.fp j b

section
variable {w : World} {f : Nat → Nat} {ι1 ι2 : Interp} {ob1 ob2 : Nat → Ob}

theorem Tr.notFree (h : Tr f ι1 ob1 ι2 ob2) {j : Nat} (hj : Ab.notFree ob1 j) : Ab.notFree ob2 (f j) := by
  unfold Ab.notFree at *
  rw [(h.o j hj).1]
  cases e : ob1 j <;> simp_all [Ob.ren]

theorem Tr.arr (h : Tr f ι1 ob1 ι2 ob2) {j : Nat} (hj : Ab.notFree ob1 j) {own : Bool} {sz : Nat} {es : List (List Cell)} (e : ob2 (f j) = .arr own sz es) : ob1 j = .arr own sz es := by
  rw [(h.o j hj).1] at e
  cases e' : ob1 j <;> simp_all [Ob.ren]

theorem Tr.box (h : Tr f ι1 ob1 ι2 ob2) {j : Nat} (hj : Ab.notFree ob1 j) {cs : List AC} (e : ob2 (f j) = .box cs) : ∃ cs1, ob1 j = .box cs1 := by
  rw [(h.o j hj).1] at e
  cases e' : ob1 j <;> simp_all [Ob.ren]

theorem Tr.map (h : Tr f ι1 ob1 ι2 ob2) {j : Nat} (hj : Ab.notFree ob1 j) {nn : Bool} {k : MK} {g : Value → Option Cell} (e : ob2 (f j) = .map nn k g) : ob1 j = .map nn k g := by
  rw [(h.o j hj).1] at e
  cases e' : ob1 j <;> simp_all [Ob.ren]

theorem Tr.reads (h : Tr f ι1 ob1 ι2 ob2) {j : Nat} (hj : Ab.notFree ob1 j) (e : (ob2 (f j)).reads) : (ob1 j).reads := by
  rw [(h.o j hj).1] at e
  cases e' : ob1 j <;> simp_all [Ob.ren, Ob.reads]

theorem Tr.rdSet (h : Tr f ι1 ob1 ι2 ob2) (hG : ∀ b, ι1.G b → ι2.G b) {src : Option Nat} (hs : ∀ id, src = some id → Ab.notFree ob1 id) : ∀ b, Ab.rdSet ι1 src b → Ab.rdSet ι2 (src.map f) b := by
  intro b hb
  cases src with
  | none => exact hG b hb
  | some id => exact hb.imp (hG b) fun hb => ((h.o id (hs id rfl)).2.2.2 b).2 hb

theorem ACRel.tr (h : Tr f ι1 ob1 ι2 ob2) {c : AC} (hG : c.noG = true ∨ ∀ b, ι1.G b → ι2.G b) {v : Value} (r : ACRel w ι1 ob1 c v) : ACRel w ι2 ob2 (c.ren f) v := by
  cases c with
  | top => trivial
  | val c =>
    rcases hG with hG | hG
    · cases c with
      | lit u => obtain ⟨rfl, hk⟩ := Rd.lit_inv (show Rd w ι1.G v _ from r); exact .lit hk
      | list es => simp [AC.noG] at hG
      | any => simp [AC.noG] at hG
    · exact Rd.mono (fun _ _ => rfl) hG r
  | ref j =>
    refine ⟨h.notFree r.1, fun own sz es e => ?_⟩
    rw [(h.o j r.1).2.2.1]
    exact r.2 _ _ _ (h.arr r.1 e)
  | bor j c =>
    have hG' := hG.resolve_left (by simp [AC.noG])
    refine ⟨h.notFree r.1, fun e => ?_⟩
    exact Rd.mono (fun _ _ => rfl) (h.rdSet hG' (src := some j) fun id e => by cases e; exact r.1) (r.2 (h.reads r.1 e))
  | ptr j o =>
    refine ⟨h.notFree r.1, fun cs e => ?_⟩
    obtain ⟨cs1, e1⟩ := h.box r.1 e
    rw [(h.o j r.1).2.1]
    exact r.2 _ e1
  | eptr j i o =>
    refine ⟨h.notFree r.1, fun own sz es e => ?_⟩
    rw [(h.o j r.1).2.2.1]
    exact r.2 _ _ _ (h.arr r.1 e)
  | iptr src cs =>
    have hG' := hG.resolve_left (by simp [AC.noG])
    refine ⟨fun id e => ?_, fun hl => ?_⟩
    · cases src with
      | none => cases e
      | some j => simp only [Option.map_some, Option.some.injEq] at e; subst e; exact h.notFree (r.1 j rfl)
    · have hl1 : live ob1 src := by
        cases src with
        | none => trivial
        | some j => exact h.reads (r.1 j rfl) hl
      obtain ⟨b, o, xs, e, hb, hx, ha⟩ := r.2 hl1
      have hm := h.rdSet hG' (src := src) r.1
      exact ⟨b, o, xs, e, hm b hb, hx, ha.imp fun x c hc => Rd.mono (fun _ _ => rfl) hm hc⟩
  | sub j i p =>
    have hG' := hG.resolve_left (by simp [AC.noG])
    refine ⟨h.notFree r.1, fun own sz es e => ?_⟩
    obtain ⟨b, h1, h2, h3⟩ := r.2 _ _ _ (h.arr r.1 e)
    exact ⟨b, by rw [(h.o j r.1).2.2.1]; exact h1, h.rdSet hG' (src := some j) (fun _ e => by cases e; exact r.1) b h2, h3⟩
  | mref j =>
    refine ⟨h.notFree r.1, fun nn k g e => ?_⟩
    rw [(h.o j r.1).2.1]
    exact r.2 _ _ _ (h.map r.1 e)

theorem SVRel.tr (h : Tr f ι1 ob1 ι2 ob2) {x : SV} (hG : x.acs.all AC.noG = true ∨ ∀ b, ι1.G b → ι2.G b) {v : Value} (r : SVRel w ι1 ob1 x v) : SVRel w ι2 ob2 (x.ren f) v := by
  cases x with
  | one c =>
    refine ⟨ACRel.tr h (hG.imp (fun hg => by simpa [SV.acs] using hg) id) r.1, fun hn => r.2 fun e => hn ?_⟩
    subst e; rfl
  | agg cs =>
    obtain ⟨arr, e, ha⟩ := r
    exact ⟨arr, e, All2.map_left _ (ha.impMem fun c u hm hc => ⟨ACRel.tr h (hG.imp (fun hg => (List.all_eq_true.1 hg) c hm) id) hc.1, hc.2⟩)⟩

theorem AVRel.tr (h : Tr f ι1 ob1 ι2 ob2) {x : AV} (hG : x.acs.all AC.noG = true ∨ ∀ b, ι1.G b → ι2.G b) {v : Value} (r : AVRel w ι1 ob1 x v) : AVRel w ι2 ob2 (x.ren f) v := by
  cases x with
  | sv x => exact SVRel.tr h hG r
  | tup l =>
    obtain ⟨arr, e, ha⟩ := r
    exact ⟨arr, e, All2.map_left _ (ha.impMem fun c u hm hc => SVRel.tr h (hG.imp (fun hg => List.all_eq_true.2 fun y hy => (List.all_eq_true.1 hg) y (List.mem_flatMap.2 ⟨c, hm, hy⟩)) id) hc)⟩

def Ob.noG : Ob → Bool
  | .box cs => cs.all AC.noG
  | .arr own _ _ => own
  | _ => true

theorem ObRel.tr (h : Tr f ι1 ob1 ι2 ob2) {j : Nat} (hj : Ab.notFree ob1 j) (hG : (ob1 j).noG = true ∨ ∀ b, ι1.G b → ι2.G b) (r : ObRel w ι1 ob1 j (ob1 j)) : ObRel w ι2 ob2 (f j) (ob2 (f j)) := by
  obtain ⟨h1, h2, h3, h4⟩ := h.o j hj
  rw [h1]
  cases e : ob1 j with
  | free => simp [Ab.notFree, e] at hj
  | dead => rw [e] at r; exact fun b hb => r b ((h4 b).1 hb)
  | box cs =>
    rw [e] at r hG
    obtain ⟨r1, arr, ty, r2, r3⟩ := r
    refine ⟨by rw [h2]; exact (h4 _).2 r1, arr, ty, by rw [h2]; exact r2, All2.map_left _ (r3.impMem fun c v hm hc => ⟨ACRel.tr h (hG.imp (fun hg => (List.all_eq_true.1 hg) c hm) id) hc.1, hc.2⟩)⟩
  | arr own sz es =>
    rw [e] at r hG
    have hf : ι2.fp (f j) = ι1.fp j := funext fun b => propext (h4 b)
    show ArrRel w (Nest w ι2.G own) sz (ι2.fp (f j)) (ι2.sl (f j)) es
    rw [h3, hf]
    rcases hG with hG | hG
    · simp only [Ob.noG] at hG; subst hG; exact r
    · exact ArrRel.mono r (fun b hb => ⟨hG b hb, rfl⟩) fun _ _ => rfl
  | map nn k f =>
    rw [e] at r
    simp only [Ob.ren, ObRel] at r ⊢
    cases nn with
    | true => exact ⟨fun b hb => r.1 b ((h4 b).1 hb), r.2⟩
    | false => rw [h2]; exact r.mono (fun x hx => (h4 x).2 hx) fun _ _ => rfl

end

/-! ### contracts -/
def obOf (objs : List Ob) (j : Nat) : Ob := objs.getD j .free

structure PreRel (w : World) (ι : Interp) (objs : List Ob) (args : List SV) (vals : Array Value) : Prop where
  obj : ∀ j, ObRel w ι (obOf objs) j (obOf objs j)
  disj : ∀ i j b, i ≠ j → ι.fp i b → ¬ ι.fp j b
  gfp : ∀ i b, ι.fp i b → ¬ ι.G b
  lt : ∀ i b, ι.fp i b → b < w.heap.size
  glt : ∀ b, ι.G b → b < w.heap.size
  arg : All2 (SVRel w ι (obOf objs)) args vals.toList

structure PostRel (w : World) (ι : Interp) (objs0 objs1 : List Ob) (res : AV) (w' : World) (v : Value) (ι' : Interp) : Prop where
  ext : ∀ j, OStep w w' ι ι' False j (obOf objs0 j) (obOf objs1 j)
  obj : ∀ j, ObRel w' ι' (obOf objs1) j (obOf objs1 j)
  disj : ∀ i j b, i ≠ j → ι'.fp i b → ¬ ι'.fp j b
  gfp : ∀ i b, ι'.fp i b → ¬ ι'.G b
  lt : ∀ i b, ι'.fp i b → b < w'.heap.size
  glt : ∀ b, ι'.G b → b < w'.heap.size
  gg : ∀ b, ι.G b → ι'.G b
  gown : ∀ b, ι'.G b → ι.G b ∨ (∃ i, ι.fp i b) ∨ w.heap.size ≤ b
  own : ∀ j b, ι'.fp j b → (∃ i, ι.fp i b) ∨ w.heap.size ≤ b
  frame : ∀ b, b < w.heap.size → (∀ i, ¬ ι.fp i b) → w'.heap[b]? = w.heap[b]?
  size : w.heap.size ≤ w'.heap.size
  os : w'.os = w.os
  out : w'.output = w.output
  val : AVRel w' ι' (obOf objs1) res v

/-- ████ THE CONTRACT OF A CALL AT GIVEN ABSTRACT ARGUMENTS ████ -/
def CallOK (P : Program) (f : FuncId) (objs0 : List Ob) (args : List SV) (objs1 : List Ob) (res : AV) : Prop :=
  (∀ xs w, (callFunc f xs).run P w = .ok (.enter f xs) w) ∧
  ∀ w ι vals, PreRel w ι objs0 args vals → Calls P f vals w fun e w' => ∃ v ι', e = .returned v ∧ PostRel w ι objs0 objs1 res w' v ι'

/-! ### what is handed over -/
structure Pass where
  emb : List (Option Nat) := []
  objs : List Ob := []
  args : List SV := []
  lent : List Nat := []

def lendAC (s : St) : AC → Option (Cell × List Nat)
  | .val (.lit (.slice none 0 0)) => some (.list [], [])
  | .val c => some (c, [])
  | .bor id c => if liveB s (some id) then some (c, [id]) else none
  | .ref id => match s.obj id with
    | .arr _ _ es => some (.list es, [id])
    | _ => none
  | _ => none

def lendACs (s : St) : List AC → Option (List AC × List Nat)
  | [] => some ([], [])
  | c :: r => match lendAC s c, lendACs s r with
    | some (c', l), some (r', l') => some (.val c' :: r', l ++ l')
    | _, _ => none

def passCells (s : St) : List (Option Nat) → List AC → Option (List (Option Nat) × List Ob × List AC × List Nat)
  | emb, [] => some (emb, [], [], [])
  | emb, c :: r => match c with
    | .ref k => match s.obj k with
      | .arr o sz es => if emb.elem (some k) then none else
        (match passCells s (emb ++ [some k]) r with
        | some (emb', obs, cs, l) => some (emb', .arr o sz es :: obs, .ref emb.length :: cs, l)
        | none => none)
      | _ => none
    | .mref k => match s.obj k with
      | .map nn kd f => if emb.elem (some k) then none else
        (match passCells s (emb ++ [some k]) r with
        | some (emb', obs, cs, l) => some (emb', .map nn kd f :: obs, .mref emb.length :: cs, l)
        | none => none)
      | _ => none
    | .val c' => match passCells s emb r with
      | some (emb', obs, cs, l) => some (emb', obs, .val c' :: cs, l)
      | none => none
    | .bor id c' => if liveB s (some id) then (match passCells s emb r with
      | some (emb', obs, cs, l) => some (emb', obs, .val c' :: cs, id :: l)
      | none => none) else none
    | .top => match passCells s emb r with
      | some (emb', obs, cs, l) => some (emb', obs, .top :: cs, l)
      | none => none
    | _ => none

/-- the cells of a struct that is handed over by value -/
def passAgg (s : St) : List (Option Nat) → List (Option (Bool × Nat)) → List AC → Option (List (Option Nat) × List Ob × List AC × List Nat)
  | emb, [], [] => some (emb, [], [], [])
  | emb, m :: ms, c :: r => match m with
    | none => match lendAC s c with
      | some (c', l) => (match passAgg s emb ms r with
        | some (emb', obs, cs, l') => some (emb', obs, .val c' :: cs, l ++ l')
        | none => none)
      | none => none
    | some (o, sz) => match c with
      | .ref k => match s.obj k with
        | .arr o' sz' es => if o' = o ∧ sz' = sz ∧ emb.elem (some k) = false then
          (match passAgg s (emb ++ [some k]) ms r with
          | some (emb', obs, cs, l) => some (emb', .arr o sz es :: obs, .ref emb.length :: cs, l)
          | none => none) else none
        | _ => none
      | .val (.lit (.slice none 0 0)) => (match passAgg s (emb ++ [none]) ms r with
        | some (emb', obs, cs, l) => some (emb', .arr o sz [] :: obs, .ref emb.length :: cs, l)
        | none => none)
      | _ => none
  | _, _, _ => none

def Pass.add (s : St) (p : Pass) (m : Mode) (x : SV) : Option Pass :=
  match m with
  | .rd => match x with
    | .one c => match lendACs s [c] with
      | some ([c'], l) => some { p with args := p.args ++ [.one c'], lent := p.lent ++ l }
      | _ => none
    | .agg cs => match lendACs s cs with
      | some (cs', l) => some { p with args := p.args ++ [.agg cs'], lent := p.lent ++ l }
      | none => none
  | .own o sz => match x with
    | .one (.ref id) => match s.obj id with
      | .arr o' sz' es => if o' = o ∧ sz' = sz ∧ p.emb.elem (some id) = false then
          some { p with emb := p.emb ++ [some id], objs := p.objs ++ [.arr o sz es], args := p.args ++ [.one (.ref p.emb.length)] } else none
      | _ => none
    | .one (.val (.lit (.slice none 0 0))) => some { p with emb := p.emb ++ [none], objs := p.objs ++ [.arr o sz []], args := p.args ++ [.one (.ref p.emb.length)] }
    | _ => none
  | .ptr => match x with
    | .one (.ptr id 0) => match s.obj id with
      | .box cs => if p.emb.elem (some id) then none else
        (match passCells s (p.emb ++ [some id]) cs with
        | some (emb', obs, cs', l) => some { emb := emb', objs := p.objs ++ .box cs' :: obs, args := p.args ++ [.one (.ptr p.emb.length 0)], lent := p.lent ++ l }
        | none => none)
      | _ => none
    | _ => none
  | .map => match x with
    | .one (.mref id) => match s.obj id with
      | .map nn kd f => if p.emb.elem (some id) = false then
          some { p with emb := p.emb ++ [some id], objs := p.objs ++ [.map nn kd f], args := p.args ++ [.one (.mref p.emb.length)] } else none
      | _ => none
    | _ => none
  | .agg ms => match x with
    | .agg cs => match passAgg s p.emb ms cs with
      | some (emb', obs, cs', l) => some { emb := emb', objs := p.objs ++ obs, args := p.args ++ [.agg cs'], lent := p.lent ++ l }
      | none => none
    | _ => none

def passAll (s : St) : Pass → List Mode → List AV → Option Pass
  | p, [], [] => some p
  | p, m :: ms, .sv x :: xs => match p.add s m x with
    | some p' => passAll s p' ms xs
    | none => none
  | _, _, _ => none

end Go.Proofs.Ytamcedjjlokfhaa.Ab
