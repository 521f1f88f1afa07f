/- The abstract machine, part 7: slice expressions, len, max, min; all value operations together. No condition. -/
import Derived.Test.YtamcedjjlokfhaaAb6
namespace Go.Proofs.Ytamcedjjlokfhaa.Ab
open Go
set_option linter.unusedVariables false
section
variable {P : Program} {E : Ent} {s : St} {ι : Interp} {a : Act} {w : World}

theorem run_bounds {isS : Bool} {len cap x y : Nat} {lo hi : Option Operand} (hlo : lo = none ∧ x = 0 ∨ ∃ z k, lo = some z ∧ a.eval z = .int k (x : Int))
    (hhi : hi = none ∧ y = len ∨ ∃ z k, hi = some z ∧ a.eval z = .int k (y : Int)) (h1 : x ≤ y) (h2 : y ≤ cap) :
    (Instr.sliceBounds isS len cap (lo.map a.eval) (hi.map a.eval) none).run P w = .ok (x, y, cap) w := by
  have hb : ∀ (k : IntKind) (n m : Nat) (c : BoundsCode), n ≤ m → (Instr.sliceBound (.int k (n : Int)) m c).run P w = .ok n w := by
    intro k n m c hle
    have := run_sliceBound (P := P) (w := w) k (n : Int) m c (by omega) (by omega)
    simpa using this
  unfold Instr.sliceBounds
  rcases hlo with ⟨rfl, rfl⟩ | ⟨z, k, rfl, hz⟩ <;> rcases hhi with ⟨rfl, rfl⟩ | ⟨z', k', rfl, hz'⟩
  · simp
  · simp [hz', hb _ _ _ _ h2]
  · simp [hz, hb _ _ _ _ h1]
  · simp [hz, hz', hb _ _ _ _ h1, hb _ _ _ _ h2]

theorem flatten_take_drop {α : Type} {sz : Nat} : ∀ {es : List (List α)} (x n : Nat), (∀ e ∈ es, e.length = sz) → ((es.drop x).take n).flatten = (es.flatten.drop (x * sz)).take (n * sz)
  | [], x, n, _ => by simp
  | e :: es, 0, 0, h => by simp
  | e :: es, 0, n + 1, h => by
    have ih := flatten_take_drop (es := es) 0 n fun y hy => h y (List.mem_cons_of_mem _ hy)
    have he : e.length = sz := h e List.mem_cons_self
    simp only [List.drop_zero, Nat.zero_mul] at ih ⊢
    rw [List.take_succ_cons, List.flatten_cons, List.flatten_cons, ih, Nat.add_mul, Nat.one_mul, Nat.add_comm (n * sz) sz]
    rw [List.take_append, ← he]
    congr 1
    · rw [List.take_of_length_le (by omega)]
    · congr 1; omega
  | e :: es, x + 1, n, h => by
    have ih := flatten_take_drop (es := es) x n fun y hy => h y (List.mem_cons_of_mem _ hy)
    have he : e.length = sz := h e List.mem_cons_self
    rw [List.drop_succ_cons, ih, List.flatten_cons]
    congr 1
    rw [Nat.add_mul, Nat.one_mul, List.drop_append, List.drop_of_length_le (l := e) (by rw [he]; omega), List.nil_append]
    congr 1
    omega

theorem Rd.slice_sub {G : Nat → Prop} {v : Value} {es : List (List Cell)} (h : Rd w G v (.list es)) {x y sz : Nat} (hxy : x ≤ y) (hy : y ≤ es.length) (hsz : ∀ e ∈ es, e.length = sz)
    {base : Option Addr} {len cap : Nat} (hv : v = .slice base len cap) :
    len = es.length ∧ y ≤ cap ∧ Rd w G (.slice (if cap = x then base else base.map (·.add (x * sz))) (y - x) (cap - x)) (.list ((es.drop x).take (y - x))) := by
  have hlen : ((es.drop x).take (y - x)).length = y - x := by rw [List.length_take, List.length_drop]; omega
  cases h with
  | nil =>
    simp only [Value.slice.injEq] at hv
    obtain ⟨rfl, rfl, rfl⟩ := hv
    simp only [List.length_nil] at hy
    obtain rfl : y = 0 := by omega
    obtain rfl : x = 0 := by omega
    exact ⟨rfl, Nat.zero_le _, by simpa using Rd.nil⟩
  | slice hG hc hm hsz' hl hx hr =>
    rename_i b off cap' sz' xs
    simp only [Value.slice.injEq] at hv
    obtain ⟨rfl, rfl, rfl⟩ := hv
    refine ⟨rfl, by omega, ?_⟩
    have hadd : (if cap' = x then some (⟨b, off, none⟩ : Addr) else (some (⟨b, off, none⟩ : Addr)).map (·.add (x * sz))) = some ⟨b, if cap' = x then off else off + x * sz, none⟩ := by
      split <;> simp [addr_add]
    rw [hadd]
    have hmem : ∀ e ∈ (es.drop x).take (y - x), e.length = sz := fun e he => hsz e (List.mem_of_mem_drop (List.mem_of_mem_take he))
    have hfl := flatten_take_drop x (y - x) hsz
    have key : Rd w G (.slice (some ⟨b, if cap' = x then off else off + x * sz, none⟩) ((es.drop x).take (y - x)).length (cap' - x)) (.list ((es.drop x).take (y - x))) := by
      refine .slice (xs := (xs.drop (x * sz)).take ((y - x) * sz)) hG (by rw [hlen]; omega) (by omega) hmem ?_ ?_ ?_
      · rw [hfl]; simp only [List.length_take, List.length_drop, hl]
      · intro j u hu
        rw [List.getElem?_take] at hu
        split at hu
        · rename_i hj
          rw [List.getElem?_drop] at hu
          have := hx _ _ hu
          rw [if_neg (by intro e; have : y - x = 0 := by omega
                         rw [this] at hj; omega), Nat.add_assoc]
          exact this
        · cases hu
      · intro j u c hu hc'
        rw [hfl] at hc'
        rw [List.getElem?_take] at hu hc'
        split at hu
        · rename_i hj
          rw [if_pos hj] at hc'
          rw [List.getElem?_drop] at hu hc'
          exact hr _ u c hu hc'
        · cases hu
    rwa [hlen] at key

theorem vSlice_sound (h : Rel E s ι a w) {o : Oper} {T : TypeId} {y : Operand} {lo hi mx : Option Operand} (ho : o.op = .slice T y lo hi mx) {x : AV} {it : List Item} {q q' : List Orc} {K : Prop}
    (e : vop P s o q = some (x, it, q')) (vc : VC it K) : VOK P s ι a w o x ∧ K := by
  simp only [vop, ho, vSlice] at e
  cases mx with
  | some z => cases e
  | none =>
    simp only at e
    split at e
    · rename_i hs
      split at e
      · rename_i l hl
        split at e
        · rename_i x1 i1 x2 i2 h1 h2
          simp only [Option.some.injEq, Prod.mk.injEq] at e
          obtain ⟨rfl, rfl, rfl⟩ := e
          have vc1 := VC.append vc
          have vc2 := VC.append vc1
          obtain ⟨b1, vc3⟩ := bound_sound h h1 vc2
          obtain ⟨b2, vc4⟩ := bound_sound h h2 vc3
          obtain ⟨⟨hab, hbl⟩, vc5⟩ := vc4
          obtain ⟨hv, hlm⟩ := litS_rel h hl
          refine ⟨⟨_, ?_, lit1_rel ?_⟩, vc5⟩
          · simp only [execOp, ho, hv]
            refine run_v _ ?_
            have hsz : (ByteArray.mk l.toArray).size = l.length := by show l.toArray.size = _; simp
            have hb := run_bounds (P := P) (w := w) (isS := false) (len := l.length) (cap := l.length) b1 b2 hab hbl
            simp only [Instr.sliceAt, Sem.run_bind, run_underlying (isString_ok hs), Result.andThen_ok, Instr.slice, Option.map_none, hsz, hb, Sem.run_pure, Option.isSome_none, Bool.false_eq_true, if_false]
            rw [ByteArray.extract_mk]
          · show (List.toArray _).size ≤ maxLen
            simp only [List.size_toArray, List.length_take, List.length_drop]
            omega
        · cases e
      · cases e
    · rename_i hs
      split at e
      · rename_i c el hc he
        split at e
        · rename_i src es sz hel hsz
          split at e
          · rename_i x1 i1 x2 i2 h1 h2
            simp only [Option.some.injEq, Prod.mk.injEq] at e
            obtain ⟨rfl, rfl, rfl⟩ := e
            have vc1 := VC.append vc
            have vc2 := VC.append vc1
            obtain ⟨b1, vc3⟩ := bound_sound h h1 vc2
            obtain ⟨b2, vc4⟩ := bound_sound h h2 vc3
            obtain ⟨⟨hab, hbl, hall⟩, vc5⟩ := vc4
            obtain ⟨hr, hnf⟩ := elems_rd h (ac_rel h hc) hel
            obtain ⟨_, base, cap, hv⟩ := Rd.list_inv hr
            obtain ⟨_, hcap, hsub⟩ := Rd.slice_sub hr hab hbl hall hv
            refine ⟨⟨.slice (if cap = x1 then base else base.map (·.add (x1 * sz))) (x2 - x1) (cap - x1), ?_, ?_⟩, vc5⟩
            · simp only [execOp, ho, hv]
              refine run_v _ ?_
              have hb := run_bounds (P := P) (w := w) (isS := true) (len := es.length) (cap := cap) b1 b2 hab hcap
              simp only [Instr.sliceAt, Sem.run_bind, run_underlying (telem_ok he), Result.andThen_ok, Instr.slice, Option.map_none, hb, Sem.run_pure, run_sizeOf' hsz]
            · cases src with
              | none => exact ⟨hsub, fun _ => rfl⟩
              | some id => exact ⟨⟨hnf id rfl, fun _ => hsub⟩, fun _ => rfl⟩
          · cases e
        · cases e
      · cases e

theorem vBuiltin_sound (h : Rel E s ι a w) {o : Oper} {b : Builtin} {args : Array Operand} {tys : Array TypeId} (ho : o.op = .call { callee := .builtin b, args := args, argTypes := tys })
    {x : AV} {it : List Item} {q q' : List Orc} {K : Prop} (e : vop P s o q = some (x, it, q')) (vc : VC it K) : VOK P s ι a w o x ∧ K := by
  simp only [vop, ho, vBuiltin] at e
  split at e
  · split at e
    · rename_i y t ha ht
      obtain rfl : args = #[y] := by apply Array.ext'; simpa using ha
      obtain rfl : tys = #[t] := by apply Array.ext'; simpa using ht
      split at e
      · rename_i hs
        split at e
        · rename_i l hl
          simp only [Option.some.injEq, Prod.mk.injEq] at e
          obtain ⟨rfl, rfl, rfl⟩ := e
          obtain ⟨hv, hm⟩ := litS_rel h hl
          refine ⟨⟨_, ?_, lit1_rel trivial⟩, vc hm⟩
          simp only [execOp, ho, resolve, Sem.run_bind, Sem.run_pure, Result.andThen_ok, invoke, builtin]
          simp [Builtin.len_, run_underlying (isString_ok hs), hv, goInt]
          show (l.toArray.size : Int) = _
          simp
        · cases e
      · split at e
        · rename_i c hc hs
          cases hel : elems s c with
          | none => simp [hel] at e
          | some r =>
            simp only [hel, Option.map_some, Option.some.injEq, Prod.mk.injEq] at e
            obtain ⟨rfl, rfl, rfl⟩ := e
            obtain ⟨src, es⟩ := r
            obtain ⟨hr, _⟩ := elems_rd h (ac_rel h hc) hel
            obtain ⟨hm, base, cap, hv⟩ := Rd.list_inv hr
            refine ⟨⟨_, ?_, lit1_rel trivial⟩, vc hm⟩
            obtain ⟨el, hu⟩ := isSlice_ok hs
            simp only [execOp, ho, resolve, Sem.run_bind, Sem.run_pure, Result.andThen_ok, invoke, builtin]
            simp [Builtin.len_, run_underlying hu, hv, goInt]
        · cases e
    · cases e
  · split at e
    · rename_i y z ha
      obtain rfl : args = #[y, z] := by apply Array.ext'; simpa using ha
      split at e
      · rename_i k n k' m hy hz
        simp only [Option.some.injEq, Prod.mk.injEq] at e
        obtain ⟨rfl, rfl, rfl⟩ := e
        refine ⟨⟨_, ?_, lit1_rel trivial⟩, vc⟩
        simp only [execOp, ho, resolve, Sem.run_bind, Sem.run_pure, Result.andThen_ok, invoke, builtin]
        simp [Builtin.max_, Builtin.max2, int_rel h hy, int_rel h hz]
        split <;> omega
      · cases e
    · cases e
  · split at e
    · rename_i y z ha
      obtain rfl : args = #[y, z] := by apply Array.ext'; simpa using ha
      split at e
      · rename_i k n k' m hy hz
        simp only [Option.some.injEq, Prod.mk.injEq] at e
        obtain ⟨rfl, rfl, rfl⟩ := e
        refine ⟨⟨_, ?_, lit1_rel trivial⟩, vc⟩
        simp only [execOp, ho, resolve, Sem.run_bind, Sem.run_pure, Result.andThen_ok, invoke, builtin]
        simp [Builtin.min_, Builtin.min2, int_rel h hy, int_rel h hz]
        split <;> omega
      · cases e
    · cases e
  · cases e

theorem vop_sound (h : Rel E s ι a w) {o : Oper} {x : AV} {it : List Item} {q q' : List Orc} {K : Prop} (e : vop P s o q = some (x, it, q')) (vc : VC it K) : VOK P s ι a w o x ∧ K := by
  cases ho : o.op <;> first
    | exact load_sound h ho e vc
    | exact fieldAddr_sound h ho e vc
    | exact indexAddr_sound h ho e vc
    | exact vSlice_sound h ho e vc
    | exact simple_sound h (by rw [ho]; trivial) e vc
    | (simp only [vop, ho] at e; cases e; done)
    | skip
  rename_i c
  obtain ⟨callee, args, tys⟩ := c
  cases callee with
  | builtin b => exact vBuiltin_sound h ho e vc
  | value f => simp only [vop, ho] at e; cases e
  | invoke r m => simp only [vop, ho] at e; cases e

end
end Go.Proofs.Ytamcedjjlokfhaa.Ab
