/- The abstract machine, part 5: the value operations, all of them in one function, and its soundness. No condition. -/
import Derived.Test.YtamcedjjlokfhaaAb4
namespace Go.Proofs.Ytamcedjjlokfhaa.Ab
open Go
set_option linter.unusedVariables false

abbrev lit1 (v : Value) : AV := .sv (.one (.val (.lit v)))

def mkSV (ag : Bool) (l : List AC) : Option SV :=
  match ag with
  | true => some (.agg l)
  | false => match l with | [c] => some (.one c) | _ => none

def ptrLive (s : St) : AC → Bool
  | .ptr id _ => match s.obj id with | .box _ => true | _ => false
  | .eptr id _ _ => match s.obj id with | .arr .. => true | _ => false
  | .iptr src _ => liveB s src
  | _ => false

def shift (off : Nat) : AC → Option AC
  | .ptr id o => some (.ptr id (o + off))
  | .eptr id i o => some (.eptr id i (o + off))
  | .iptr src cs => some (.iptr src (cs.drop off))
  | _ => none

def idxAddr (s : St) (sz : Nat) (n : Int) (q : List Orc) : AC → Option (AC × List Item × List Orc)
  | .val (.list es) => match q with
    | .cells cl :: q => if cl.length = sz then some (.iptr none cl, [.obl (0 ≤ n ∧ es[n.toNat]? = some cl)], q) else none
    | _ => none
  | .bor id (.list es) => match q with
    | .cells cl :: q => if cl.length = sz ∧ liveB s (some id) = true then some (.iptr (some id) cl, [.obl (0 ≤ n ∧ es[n.toNat]? = some cl)], q) else none
    | _ => none
  | .ref id => match s.obj id with
    | .arr _ sz' es => if sz' = sz then some (.eptr id n.toNat 0, [.obl (0 ≤ n ∧ n.toNat < es.length)], q) else none
    | _ => none
  | _ => none

/-- the elements that a slice value holds now, and through which object it reads them -/
def elems (s : St) : AC → Option (Option Nat × List (List Cell))
  | .val (.list es) => some (none, es)
  | .val (.lit (.slice none 0 0)) => some (none, [])
  | .bor id (.list es) => if liveB s (some id) then some (some id, es) else none
  | .ref id => match s.obj id with
    | .arr _ _ es => some (some id, es)
    | _ => none
  | _ => none

def litS (s : St) (x : Operand) : Option (List UInt8) := match s.lit x with | some (.string t) => some t.data.toList | _ => none

/-- a bound of a slice expression: none: the default -/
def bound (s : St) (d : Nat) : Option Operand → Option (Nat × List Item)
  | none => some (d, [])
  | some x => match s.int x with | some (_, n) => some (n.toNat, [.obl (0 ≤ n)]) | none => none

def borC (src : Option Nat) (es : List (List Cell)) : AC := match src with | none => .val (.list es) | some id => .bor id (.list es)

def isSlice (P : Program) (T : TypeId) : Bool := match P.underlying T with | some (.slice _) => true | _ => false
def isString (P : Program) (T : TypeId) : Bool := match P.underlying T with | some .string => true | _ => false
def isBytes (P : Program) (T : TypeId) : Bool := match P.underlying T with | some (.slice e) => (match P.underlying e with | some (.int .u8) => true | _ => false) | _ => false
def byteC (b : UInt8) : List Cell := [.lit (.int .u8 (b.toNat : Int))]
def intOfT (P : Program) (T : TypeId) : Option IntKind := match P.underlying T with | some (.int k) => some k | _ => none

section
variable (P : Program) (s : St)

def vSlice (T : TypeId) (x : Operand) (lo hi mx : Option Operand) (q : List Orc) : Option (AV × List Item × List Orc) :=
  match mx with
  | some _ => none
  | none =>
    match isString P T with
    | true => match litS s x with
      | some l => match bound s 0 lo, bound s l.length hi with
        | some (a, i1), some (b, i2) => some (lit1 (bs ((l.drop a).take (b - a))), i1 ++ i2 ++ [.obl (a ≤ b ∧ b ≤ l.length)], q)
        | _, _ => none
      | none => none
    | false => match s.ac x, telem P T with
      | some c, some e => match elems s c, tsize P e with
        | some (src, es), some sz => match bound s 0 lo, bound s es.length hi with
          | some (a, i1), some (b, i2) => some (.sv (.one (borC src ((es.drop a).take (b - a)))), i1 ++ i2 ++ [.obl (a ≤ b ∧ b ≤ es.length ∧ ∀ e ∈ es, e.length = sz)], q)
          | _, _ => none
        | _, _ => none
      | _, _ => none

def vBuiltin (b : Builtin) (args : Array Operand) (tys : Array TypeId) (q : List Orc) : Option (AV × List Item × List Orc) :=
  match b with
  | .len => match args.toList, tys.toList with
    | [x], [t] => match isString P t with
      | true => match litS s x with
        | some l => some (lit1 (.int .i64 (l.length : Int)), [.asm (l.length ≤ maxLen)], q)
        | none => none
      | false => match s.ac x, isSlice P t with
        | some c, true => (elems s c).map fun r => (lit1 (.int .i64 (r.2.length : Int)), [.asm (r.2.length ≤ maxLen)], q)
        | _, _ => none
    | _, _ => none
  | .max => match args.toList with
    | [x, y] => match s.int x, s.int y with
      | some (k, a), some (_, b) => some (lit1 (.int k (max a b)), [], q)
      | _, _ => none
    | _ => none
  | .min => match args.toList with
    | [x, y] => match s.int x, s.int y with
      | some (k, a), some (_, b) => some (lit1 (.int k (min a b)), [], q)
      | _, _ => none
    | _ => none
  | _ => none

def vop (o : Oper) (q : List Orc) : Option (AV × List Item × List Orc) :=
  match o.op with
  | .move x | .assign x => (s.ev x).map fun v => (v, [], q)
  | .pick c x y => match s.lit c with
    | some (.bool true) => (s.ev x).map fun v => (v, [], q)
    | some (.bool false) => (s.ev y).map fun v => (v, [], q)
    | _ => none
  | .load T x => match s.ac x, tsize P T, tagg P T with
    | some c, some n, some ag => match readAt s c n q with
      | some (l, it, q') => (mkSV ag l).map fun v => (.sv v, it, q')
      | none => none
    | _, _, _ => none
  | .nilCheck x => match s.ac x with
    | some c => if ptrLive s c then some (.sv (.one c), [], q) else none
    | none => none
  | .binOp op T x y _ => match s.lit x, s.lit y with
    | some a, some b => (bop P T op a b).map fun r => (lit1 r.1, r.2, q)
    | _, _ => none
  | .unOp .not _ x => match s.lit x with
    | some (.bool b) => some (lit1 (.bool (!b)), [], q)
    | _ => none
  | .unOp .neg _ x => match s.int x with
    | some (k, n) => some (lit1 (.int k (0 - n)), [.obl (rng k (0 - n))], q)
    | none => none
  | .convert src dst x => match isBytes P src && isString P dst with
    | true => match s.ac x, q with
      | some c, .bytes l :: q => match elems s c with
        | some (_, es) => some (lit1 (bs l), [.obl (es = l.map byteC)], q)
        | none => none
      | _, _ => none
    | false => match s.int x, P.underlying src, intOfT P dst with
      | some (_, n), some _, some k => some (lit1 (.int k n), [.obl (rng k n)], q)
      | _, _, _ => none
  | .fieldAddr S x f => match s.ac x, tfield P S f with
    | some c, some (off, _, n) => if n ≠ 0 ∧ ptrLive s c = true then (shift off c).map fun c => (.sv (.one c), [], q) else none
    | _, _ => none
  | .indexAddr T x i => match s.ac x, s.int i, telem P T with
    | some c, some (_, n), some e => match tsize P e with
      | some sz => (idxAddr s sz n q c).map fun r => (.sv (.one r.1), r.2.1, r.2.2)
      | none => none
    | _, _, _ => none
  | .index T x i => match isString P T, litS s x, s.int i with
    | true, some l, some (_, n) => some (lit1 (.int .u8 ((l.getD n.toNat 0).toNat : Int)), [.obl (0 ≤ n ∧ n.toNat < l.length)], q)
    | _, _, _ => none
  | .slice T x lo hi mx => vSlice P s T x lo hi mx q
  | .extract x i => match s.ev x with
    | some (.tup l) => match l[i]? with | some v => some (.sv v, [], q) | none => none
    | _ => none
  | .call { callee := .builtin b, args := args, argTypes := tys } => vBuiltin P s b args tys q
  | _ => none

end

section
variable {P : Program} {E : Ent} {s : St} {ι : Interp} {a : Act} {w : World}

theorem run_v (x : Sem Value) {v : Value} {w' : World} (h : x.run P w = .ok v w') : (do pure (.value (← x)) : Sem Next).run P w = .ok (.value v) w' := by simp [h]

theorem lit1_rel {ob : Nat → Ob} {v : Value} (h : litOK v) : AVRel w ι ob (lit1 v) v := ⟨.lit h, fun _ => h.one⟩

theorem litS_rel (h : Rel E s ι a w) {x : Operand} {l : List UInt8} (e : litS s x = some l) : a.eval x = bs l ∧ l.length ≤ maxLen := by
  unfold litS at e
  split at e
  · rename_i t ht
    simp only [Option.some.injEq] at e; subst e
    obtain ⟨h1, h2⟩ := lit_rel h ht
    refine ⟨h1, ?_⟩
    rw [Array.length_toList]; exact h2
  · cases e

theorem ptrLive_some {c : AC} {v : Value} (hv : ACRel w ι s.obj c v) (e : ptrLive s c = true) : ∃ b o, v = .pointer (some ⟨b, o, none⟩) := by
  unfold ptrLive at e
  split at e
  · split at e
    · rename_i hb; exact ⟨_, _, hv.2 _ hb⟩
    · cases e
  · split at e
    · rename_i hb
      obtain ⟨b, _, hp⟩ := hv.2 _ _ _ hb
      exact ⟨_, _, hp⟩
    · cases e
  · obtain ⟨b, o, xs, hp, _⟩ := hv.2 (liveB_ok e)
    exact ⟨_, _, hp⟩
  · cases e

theorem shift_rel {c c' : AC} {off b o : Nat} (hv : ACRel w ι s.obj c (.pointer (some ⟨b, o, none⟩))) (e : shift off c = some c') :
    ACRel w ι s.obj c' (.pointer (some ⟨b, o + off, none⟩)) := by
  unfold shift at e
  split at e <;> simp only [Option.some.injEq, reduceCtorEq] at e
  · subst e
    refine ⟨hv.1, fun cs hb => ?_⟩
    have := hv.2 cs hb
    simp only [Value.pointer.injEq, Option.some.injEq, Addr.mk.injEq, and_true] at this ⊢
    exact ⟨this.1, by omega⟩
  · subst e
    refine ⟨hv.1, fun own sz es hb => ?_⟩
    obtain ⟨b', h1, h2⟩ := hv.2 own sz es hb
    refine ⟨b', h1, ?_⟩
    simp only [Value.pointer.injEq, Option.some.injEq, Addr.mk.injEq, and_true] at h2 ⊢
    exact ⟨h2.1, by omega⟩
  · subst e
    refine ⟨hv.1, fun hl => ?_⟩
    obtain ⟨b', o', xs, h1, h2, h3, h4⟩ := hv.2 hl
    simp only [Value.pointer.injEq, Option.some.injEq, Addr.mk.injEq, and_true] at h1
    obtain ⟨rfl, rfl⟩ := h1
    refine ⟨b, o + off, xs.drop off, rfl, h2, fun j u hu => ?_, h4.drop off⟩
    rw [List.getElem?_drop] at hu
    have := h3 _ _ hu
    rwa [Nat.add_assoc]

/-- a slice value as a reading -/
theorem elems_rd (h : Rel E s ι a w) {c : AC} {v : Value} (hv : ACRel w ι s.obj c v) {src : Option Nat} {es : List (List Cell)} (e : elems s c = some (src, es)) :
    Rd w (rdSet ι src) v (.list es) ∧ (∀ id, src = some id → notFree s.obj id) := by
  unfold elems at e
  split at e
  · simp only [Option.some.injEq, Prod.mk.injEq] at e
    obtain ⟨rfl, rfl⟩ := e
    exact ⟨hv, by simp⟩
  · simp only [Option.some.injEq, Prod.mk.injEq] at e
    obtain ⟨rfl, rfl⟩ := e
    obtain ⟨rfl, _⟩ := Rd.lit_inv (show Rd w ι.G v _ from hv)
    exact ⟨.nil, by simp⟩
  · split at e
    · rename_i hl
      simp only [Option.some.injEq, Prod.mk.injEq] at e
      obtain ⟨rfl, rfl⟩ := e
      exact ⟨hv.2 (liveB_ok hl), fun i e => by cases e; exact hv.1⟩
    · cases e
  · split at e
    · rename_i id _ own sz es' ho
      simp only [Option.some.injEq, Prod.mk.injEq] at e
      obtain ⟨rfl, rfl⟩ := e
      have hob := h.objs id
      rw [ho] at hob
      rw [hv.2 _ _ _ ho]
      exact ⟨ArrRel.rd hob, fun i e => by cases e; exact hv.1⟩
    · cases e
  · cases e

theorem Rd.list_inv {G : Nat → Prop} {v : Value} {es : List (List Cell)} (h : Rd w G v (.list es)) : es.length ≤ maxLen ∧ ∃ base cap, v = .slice base es.length cap := by
  cases h with
  | nil => exact ⟨by simp, _, _, rfl⟩
  | slice hG hc hm => exact ⟨Nat.le_trans hc hm, _, _, rfl⟩

theorem isSlice_ok {T : TypeId} (h : isSlice P T = true) : ∃ e, P.underlying T = some (.slice e) := by
  unfold isSlice at h; split at h
  · exact ⟨_, ‹_›⟩
  · cases h
theorem isString_ok {T : TypeId} (h : isString P T = true) : P.underlying T = some .string := by
  unfold isString at h; split at h
  · assumption
  · cases h
theorem telem_ok {T e : TypeId} (h : telem P T = some e) : P.underlying T = some (.slice e) := by
  unfold telem at h; split at h
  · simp only [Option.some.injEq] at h; subst h; assumption
  · cases h

/-- an element's address -/
theorem Rd.elem {G : Nat → Prop} {v : Value} {es : List (List Cell)} (h : Rd w G v (.list es)) {i : Nat} {cl : List Cell} (hi : es[i]? = some cl) :
    ∃ b off cap, v = .slice (some ⟨b, off, none⟩) es.length cap ∧ G b ∧ ∃ xs : List Value, (∀ (j : Nat) (u : Value), xs[j]? = some u → w.cell? ⟨b, off + i * cl.length + j, none⟩ = some u) ∧ All2 (Rd w G) xs cl := by
  cases h with
  | nil => simp at hi
  | slice hG hc hm hsz hl hx hr =>
    rename_i b off cap sz xs
    have he : cl.length = sz := hsz _ (List.mem_of_getElem? hi)
    have hpos : ∀ (k : Nat) (c : Cell), cl[k]? = some c → es.flatten[i * sz + k]? = some c := fun k c hk => flatten_get hsz hi hk
    have hlt : ∀ k, k < sz → i * sz + k < xs.length := by
      intro k hk
      rw [hl]
      obtain ⟨c, hc⟩ : ∃ c, cl[k]? = some c := ⟨cl[k]'(by omega), List.getElem?_eq_getElem _⟩
      exact (List.getElem?_eq_some_iff.1 (hpos k c hc)).1
    refine ⟨b, off, cap, rfl, hG, (xs.drop (i * sz)).take sz, fun j u hu => ?_, All2.of_get ?_ fun k u c hu hc => ?_⟩
    · rw [List.getElem?_take] at hu
      split at hu
      · rw [List.getElem?_drop] at hu
        have := hx _ _ hu
        rw [he]
        rwa [Nat.add_assoc]
      · cases hu
    · rw [List.length_take, List.length_drop, he]
      rcases Nat.eq_zero_or_pos sz with h0 | h0
      · omega
      · have := hlt (sz - 1) (by omega)
        omega
    · rw [List.getElem?_take] at hu
      split at hu
      · rw [List.getElem?_drop] at hu
        exact hr _ u c hu (hpos k c hc)
      · cases hu


theorem bound_sound (h : Rel E s ι a w) {d : Nat} {x : Option Operand} {n : Nat} {it : List Item} {K : Prop} (e : bound s d x = some (n, it)) (vc : VC it K) :
    (x = none ∧ n = d ∨ ∃ y k, x = some y ∧ a.eval y = .int k (n : Int)) ∧ K := by
  cases x with
  | none => simp only [bound, Option.some.injEq, Prod.mk.injEq] at e; obtain ⟨rfl, rfl⟩ := e; exact ⟨.inl ⟨rfl, rfl⟩, vc⟩
  | some y =>
    simp only [bound] at e
    split at e
    · rename_i k m hm
      simp only [Option.some.injEq, Prod.mk.injEq] at e
      obtain ⟨rfl, rfl⟩ := e
      refine ⟨.inr ⟨y, k, rfl, ?_⟩, vc.2⟩
      rw [int_rel h hm, Int.toNat_of_nonneg vc.1]
    · cases e

end
end Go.Proofs.Ytamcedjjlokfhaa.Ab
