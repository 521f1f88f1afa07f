/- The abstract machine, part 13: slice literals and make. No condition. -/
import Derived.Test.YtamcedjjlokfhaaAb12
import Derived.Great.BuildSlice
namespace Go.Proofs.Ytamcedjjlokfhaa.Ab
open Go
set_option linter.unusedVariables false

def chunk {α : Type} (sz : Nat) : Nat → List α → List (List α)
  | 0, _ => []
  | n + 1, l => l.take sz :: chunk sz n (l.drop sz)

theorem chunk_length {α : Type} {sz : Nat} : ∀ (n : Nat) (l : List α), (chunk sz n l).length = n
  | 0, _ => rfl
  | n + 1, l => by simp [chunk, chunk_length n]

theorem chunk_flatten {α : Type} {sz : Nat} : ∀ (n : Nat) (l : List α), l.length = n * sz → (chunk sz n l).flatten = l
  | 0, l, h => by simp at h; subst h; rfl
  | n + 1, l, h => by
    rw [Nat.add_mul, Nat.one_mul] at h
    have ih := chunk_flatten (sz := sz) n (l.drop sz) (by rw [List.length_drop, h]; omega)
    simp only [chunk, List.flatten_cons, ih, List.take_append_drop]

theorem chunk_sz {α : Type} {sz : Nat} : ∀ (n : Nat) (l : List α), l.length = n * sz → ∀ e ∈ chunk sz n l, e.length = sz
  | 0, l, h, e, he => by simp [chunk] at he
  | n + 1, l, h, e, he => by
    rw [Nat.add_mul, Nat.one_mul] at h
    rcases List.mem_cons.1 he with rfl | he
    · rw [List.length_take]; omega
    · exact chunk_sz n (l.drop sz) (by rw [List.length_drop]; omega) e he

section
variable {P : Program} {E : Ent} {s : St} {ι : Interp} {a : Act} {w : World}

def absorb (s : St) (acs : List AC) : Option (Bool × List Cell × List Nat) :=
  match absorbOwn s acs with
  | some (cs, ids) => some (true, cs, ids)
  | none => match absorbShr acs with
    | some cs => some (false, cs, [])
    | none => none

theorem absorb_ok (h : Rel E s ι a w) {acs : List AC} {vs : List Value} {own : Bool} {cs : List Cell} {ids : List Nat} (e : absorb s acs = some (own, cs, ids)) (hh : All2 (CRel w ι s.obj) acs vs) :
    (∀ j ∈ ids, isArr (s.obj j)) ∧ cs.length = acs.length ∧ ∃ Fs : Nat → Nat → Prop, (∀ k b, Fs k b → ∃ j ∈ ids, ι.fp j b) ∧ (∀ k k' b, k ≠ k' → Fs k b → ¬ Fs k' b) ∧
      ∀ (k : Nat) (v : Value) (c : Cell), vs[k]? = some v → cs[k]? = some c → Nest w ι.G own (Fs k) v c := by
  unfold absorb at e
  split at e
  · rename_i cs' ids' hcs
    simp only [Option.some.injEq, Prod.mk.injEq] at e
    obtain ⟨rfl, rfl, rfl⟩ := e
    exact absorbOwn_ok h hcs hh
  · split at e
    · rename_i cs' hcs
      simp only [Option.some.injEq, Prod.mk.injEq] at e
      obtain ⟨rfl, rfl, rfl⟩ := e
      have h2 := absorbShr_ok hcs hh
      refine ⟨by simp, ?_, fun _ _ => False, by simp, by simp, fun k v c hv hc => h2.get hv hc⟩
      rw [← h2.length, ← hh.length]
    · cases e

def eBuildSlice (P : Program) (s : St) (T : TypeId) (len : Nat) (ps : Array (Nat × Operand)) (n : Nat) : Option Res :=
  match telem P T, partCells s ps.toList with
  | some e, some l => match tsize P e with
    | some sz => if fitElem P e sz = true ∧ len * sz ≤ 16777216 ∧ l.map (·.1) = List.range len ∧ l.all (fun p => p.2.length == sz) = true then
        (match absorb s (l.flatMap (·.2)) with
        | some (own, cs, ids) => some { val := .sv (.one (.ref n)), new := [.arr own sz (chunk sz len cs)], upd := killed ids }
        | none => none) else none
    | none => none
  | _, _ => none

theorem zip_range {α : Type} : ∀ (l : List (Nat × α)) (n : Nat), l.map (·.1) = List.range' n l.length → l = ((l.map (·.2)).zipIdx n).map fun x => (x.2, x.1)
  | [], n, _ => rfl
  | (i, v) :: l, n, h => by
    simp only [List.map_cons, List.length_cons, List.range'_succ, List.cons.injEq] at h
    obtain ⟨rfl, h⟩ := h
    simp only [List.map_cons, List.zipIdx_cons]
    rw [← zip_range l (i + 1) h]

theorem all2_flat {α β : Type} {R : α → β → Prop} : ∀ {ps : List (Nat × List α)} {qs : List (Nat × Value)} (f : Value → List β), All2 (fun p q => p.1 = q.1 ∧ All2 R p.2 (f q.2)) ps qs →
    All2 R (ps.flatMap (·.2)) (qs.flatMap fun q => f q.2)
  | [], [], f, _ => trivial
  | p :: ps, q :: qs, f, h => by
    simp only [List.flatMap_cons]
    exact h.1.2.append (all2_flat f h.2)
  | [], _ :: _, _, h => h.elim
  | _ :: _, [], _, h => h.elim

theorem buildSlice_run {T el : TypeId} {len sz : Nat} {parts : Array (Nat × Value)} {i : TypeInfo} {z : Value} {cells : Array Value} {idx : List Nat} (hel : telem P T = some el) (f1 : P.info? el = some i) (f2 : i.zero = some z)
    (f3 : i.size = sz) (f4 : z.cells.size = sz) (f5 : 0 < sz) (h24 : len * sz ≤ 16777216)
    (hfill : Instr.fill (fun i => some (i * sz, sz)) ((Array.range (len * sz)).map (z.cells[· % z.cells.size]!)) parts.toList = some cells) (hl : cells.size = len * sz)
    (hp : idx.length = parts.size) (hidx : idx = List.range len) :
    (Instr.buildSlice T len parts).run P w = .ok (.slice (some ⟨w.heap.size, 0, none⟩) len len) (w.alloc (.cells cells el)) := by
  have hpow : (2 : Nat) ^ 24 = 16777216 := by decide
  by_cases h0 : len * i.size = 0
  · have hl0 : len = 0 := by
      rcases Nat.mul_eq_zero.1 h0 with h1 | h1
      · exact h1
      · omega
    subst hl0
    have hp0 : parts = #[] := by
      apply Array.ext'
      have : parts.size = 0 := by rw [← hp, hidx]; rfl
      simpa using this
    have hc0 : cells = #[] := by
      apply Array.ext'
      simpa using hl
    subst hp0; subst hc0
    simp [Instr.buildSlice, run_underlying (telem_ok hel), Go.sizeOf, typeInfo, f1, newRow, Instr.fill]
    congr 2
    apply Array.eq_empty_of_size_eq_zero
    simp
  · exact run_buildSlice w T el len parts cells i z (telem_ok hel) f1 f2 (by rw [f3, hpow]; omega) h0 (by rw [f3]; exact hfill)

theorem eBuildSlice_sound (h : Rel E s ι a w) {o : Oper} {T : TypeId} {len : Nat} {ps : Array (Nat × Operand)} (ho : o.op = .buildSlice T len ps) {n : Nat} {r : Res} (e : eBuildSlice P s T len ps n = some r)
    (hroom : Room s n r.new.length) : EOK P E s a w o n r := by
  unfold eBuildSlice at e
  split at e
  · rename_i el l hel hl
    split at e
    · rename_i sz hsz
      split at e
      · rename_i hc
        obtain ⟨hfit, h24, hidx, hlen⟩ := hc
        split at e
        · rename_i own cs ids habs
          simp only [Option.some.injEq] at e; subst e
          have hparts := partCells_rel h hl
          obtain ⟨i, z, f1, f2, f3, f4, f5, f6⟩ := fitElem_ok hfit
          let vs : List Value := ps.toList.map fun x => a.eval x.2
          let flat : List Value := vs.flatMap fun v => v.cells.toList
          have hqs : (ps.toList.map fun x => (x.1, a.eval x.2)).flatMap (fun q => q.2.cells.toList) = flat := by
            simp [flat, vs, List.flatMap_map]
          have hflat : All2 (CRel w ι s.obj) (l.flatMap (·.2)) flat := by rw [← hqs]; exact all2_flat (fun v => v.cells.toList) hparts
          obtain ⟨a1, a2, Fs, a3, a4, a5⟩ := absorb_ok h habs hflat
          have hvsl : vs.length = len := by
            have h1 := congrArg List.length hidx
            rw [List.length_map, List.length_range, hparts.length] at h1
            simpa [vs] using h1
          have hvsz : ∀ v ∈ vs, v.cells.size = sz := by
            intro v hv
            obtain ⟨k, hk⟩ := List.getElem?_of_mem hv
            have hq : (ps.toList.map fun x => (x.1, a.eval x.2))[k]?.map (·.2) = some v := by
              rw [← List.getElem?_map]; simpa [vs, List.map_map] using hk
            cases hq2 : (ps.toList.map fun x => (x.1, a.eval x.2))[k]? with
            | none => simp [hq2] at hq
            | some q =>
              simp [hq2] at hq
              obtain ⟨p, hp, hpr⟩ := hparts.flip.get_left hq2
              have h2 := (List.all_eq_true.1 hlen) p (List.mem_of_getElem? hp)
              simp at h2
              rw [← h2, hpr.2.length, hq]; simp
          have hflatl : flat.length = len * sz := by
            have : ∀ (vs : List Value), (∀ v ∈ vs, v.cells.size = sz) → (vs.flatMap fun v => v.cells.toList).length = vs.length * sz := by
              intro vs
              induction vs with
              | nil => intro _; simp
              | cons v vs ih =>
                intro hv
                rw [List.flatMap_cons, List.length_append, ih fun u hu => hv u (List.mem_cons_of_mem _ hu)]
                have := hv v List.mem_cons_self
                simp only [Array.length_toList, this, List.length_cons, Nat.add_mul]; omega
            rw [← hvsl]; exact this vs hvsz
          have hcs : cs.length = len * sz := by rw [a2, hflat.length, hflatl]
          have hzip : (ps.map fun x => (x.1, a.eval x.2)).toList = (vs.zipIdx 0).map fun x => (x.2, x.1) := by
            rw [Array.toList_map]
            have hm : (ps.toList.map fun x => (x.1, a.eval x.2)).map (·.1) = List.range' 0 (ps.toList.map fun x => (x.1, a.eval x.2)).length := by
              have h1 : (ps.toList.map fun x => (x.1, a.eval x.2)).map (·.1) = l.map (·.1) := by
                have : ∀ {ps : List (Nat × List AC)} {qs : List (Nat × Value)}, All2 (fun p q => p.1 = q.1 ∧ All2 (CRel w ι s.obj) p.2 q.2.cells.toList) ps qs → qs.map (·.1) = ps.map (·.1) := by
                  intro ps
                  induction ps with
                  | nil => intro qs hq; cases qs with | nil => rfl | cons => exact hq.elim
                  | cons p ps ih => intro qs hq; cases qs with
                    | nil => exact hq.elim
                    | cons q qs => simp only [List.map_cons, ih hq.2, hq.1.1]
                exact this hparts
              rw [h1, hidx, List.range_eq_range']
              congr 1
              rw [← hvsl]; simp [vs]
            have := zip_range _ 0 hm
            rw [this, List.map_map]
            simp [vs, Function.comp_def]
          have hfill : Instr.fill (fun i => some (i * sz, sz)) ((Array.range (len * sz)).map (z.cells[· % z.cells.size]!)) ((vs.zipIdx 0).map fun x => (x.2, x.1)) = some flat.toArray :=
            Great.fill_whole f5 vs _ hvsz (by simp [hvsl])
          have hnest : ∀ (k : Nat) (u : Value) (c : Cell), flat[k]? = some u → (chunk sz len cs).flatten[k]? = some c → Nest (w.alloc (.cells flat.toArray el)) ι.G own (Fs k) u c := by
            intro k u c hu hc
            rw [chunk_flatten len cs hcs] at hc
            refine (a5 k u c hu hc).mono (fun b hb => ⟨hb, heap_alloc_lt w _ b (h.glt b hb)⟩) fun b hb => ?_
            obtain ⟨j, _, hj⟩ := a3 k b hb
            exact heap_alloc_lt w _ b (h.lt j b hj)
          have hmax : len ≤ maxLen := by
            have : len ≤ len * sz := Nat.le_mul_of_pos_right len f5
            simp only [maxLen]; omega
          have hrow := World.ownsRow_lit (base := 0) (e := el) (size := sz) w flat.toArray len (Nat.zero_le _) hmax (by simpa using hflatl)
          have harr : ArrRel (w.alloc (.cells flat.toArray el)) (Nest (w.alloc (.cells flat.toArray el)) ι.G own) sz (fun b => b = w.heap.size ∨ ∃ j ∈ ids, ι.fp j b) (.slice (some ⟨w.heap.size, 0, none⟩) len len) (chunk sz len cs) := by
            refine ⟨el, flat, Fs, by rw [chunk_length]; simpa using hrow, chunk_sz len cs hcs, ?_, fun k b hb => .inr (a3 k b hb), ?_, a4, hnest, fun hn => ?_⟩
            · intro b hb; simp only [Value.ownBlock, Option.some.injEq] at hb; exact .inl hb.symm
            · intro k b hb hk
              simp only [Value.ownBlock, Option.some.injEq] at hb
              obtain ⟨j, _, hj⟩ := a3 k b hk
              have := h.lt j b hj
              omega
            · have := congrArg List.length hn
              rw [chunk_length] at this
              have : len = 0 := this
              subst this
              exact ⟨_, rfl⟩
          obtain ⟨hf, hn⟩ := hroom n (Nat.le_refl _) (by simp)
          obtain ⟨ι', k1, k2⟩ := h.makeArr (w' := w.alloc (.cells flat.toArray el)) hf hn a1 (fun b hb _ => heap_alloc_lt w _ b hb) (by simp) rfl rfl
            (fun b hb => hb.elim (fun e => .inr ⟨by omega, by simp; omega⟩) .inl) harr rfl
          refine EOK.value ?_ k1 k2
          simp only [execOp, ho]
          exact run_v _ (buildSlice_run hel f1 f2 f3 f4 f5 h24 (by rw [hzip]; exact hfill) (by simpa using hflatl) (by have := hparts.length; simpa using this) hidx)
        · cases e
      · cases e
    · cases e
  · cases e


/-! ### make -/
def opdEq : Operand → Operand → Bool
  | .tmp x, .tmp y => x == y
  | _, _ => false

theorem opdEq_ok {x y : Operand} (h : opdEq x y = true) : x = y := by
  unfold opdEq at h
  split at h
  · simp at h; rw [h]
  · cases h

def zeroCells' (P : Program) (e : TypeId) : Option (List Cell) :=
  match P.info? e with
  | some i => match i.zero with
    | some z => if z.cells.toList.all litB then some (z.cells.toList.map normLit) else none
    | none => none
  | none => none

def eMake (P : Program) (s : St) (T : TypeId) (lo co : Operand) (n : Nat) : Option (Res × List Item) :=
  match telem P T, s.int lo with
  | some e, some (_, k) => match tsize P e, tbytes P e, zeroCells' P e with
    | some sz, some by_, some zc => if fitElem P e sz = true ∧ opdEq lo co = true then
        some ({ val := .sv (.one (.ref n)), new := [.arr true sz (List.replicate k.toNat zc)] }, [.obl (0 ≤ k ∧ by_ * k.toNat ≤ 281474976710656)]) else none
    | _, _, _ => none
  | _, _ => none

theorem eMake_sound (h : Rel E s ι a w) {o : Oper} {T : TypeId} {lo co : Operand} (ho : o.op = .makeSlice T lo co) {n : Nat} {r : Res} {it : List Item} {K : Prop} (e : eMake P s T lo co n = some (r, it)) (vc : VC it K)
    (hroom : Room s n r.new.length) : EOK P E s a w o n r ∧ K := by
  unfold eMake at e
  split at e
  · rename_i el kd k hel hk
    split at e
    · rename_i sz by_ zc hsz hby hzc
      split at e
      · rename_i hc
        simp only [Option.some.injEq, Prod.mk.injEq] at e
        obtain ⟨rfl, rfl⟩ := e
        obtain ⟨⟨h0, hb⟩, hK⟩ := vc
        refine ⟨?_, hK⟩
        obtain ⟨i, z, f1, f2, f3, f4, f5, f6⟩ := fitElem_ok hc.1
        have hby' : i.bytes = by_ := by simpa [tbytes, f1] using hby
        have hlit : z.cells.toList.all litB = true ∧ zc = z.cells.toList.map normLit := by
          unfold zeroCells' at hzc
          simp only [f1, f2] at hzc
          split at hzc
          · rename_i hl; simp only [Option.some.injEq] at hzc; exact ⟨hl, hzc.symm⟩
          · cases hzc
        have hzl : zc.length = sz := by rw [hlit.2]; simpa using f4
        have h63 : k.toNat ≤ maxLen := by
          have : k.toNat ≤ i.bytes * k.toNat := Nat.le_mul_of_pos_left _ f6
          rw [hby'] at this
          simp only [maxLen]; omega
        obtain ⟨w', r1, r2, r3⟩ := run_make_full (P := P) w 0 T el i z sz (telem_ok hel) f1 f2 f3 kd kd k.toNat (by rw [hby']; exact hb) h63 (Nat.zero_le _)
        have hnl : (List.replicate k.toNat zc).length = k.toNat := by simp
        have hes : ∀ e ∈ List.replicate k.toNat zc, e.length = sz := fun e he => by rw [(List.mem_replicate.1 he).2]; exact hzl
        have harr : ArrRel w' (Nest w' ι.G true) sz (fun b => b = w.heap.size) (.slice (some ⟨w.heap.size, 0, none⟩) k.toNat k.toNat) (List.replicate k.toNat zc) := by
          refine ⟨el, _, fun _ _ => False, by rw [hnl]; exact r2, hes, ?_, by simp, by simp, by simp, ?_, fun hn => ⟨some ⟨w.heap.size, 0, none⟩, by have h0 := congrArg List.length hn; rw [hnl] at h0; rw [show k.toNat = 0 from h0]⟩⟩
          · intro b hb; simp only [Value.ownBlock, Option.some.injEq] at hb; exact hb.symm
          · intro j u c hu hc
            have hj : j < k.toNat * sz := by
              have := (List.getElem?_eq_some_iff.1 hc).1
              rwa [flatten_length hes, hnl] at this
            have hu' : u = z.cells[j % z.cells.size]! := by
              have h1 : (madeCells z.cells (k.toNat * sz))[j]? = some u := by simpa using hu
              simp [madeCells, hj] at h1
              rw [← h1]
            have hm : j % sz < sz := Nat.mod_lt _ f5
            have hd : j / sz < k.toNat := Nat.div_lt_of_lt_mul (by rw [Nat.mul_comm]; exact hj)
            have hzj : z.cells.toList[j % sz]? = some u := by
              have h4 : j % z.cells.size < z.cells.size := by rw [f4]; exact hm
              rw [hu', ← f4, Array.getElem?_toList, Array.getElem?_eq_getElem h4]
              congr 1
              simp [h4]
            have hcc : zc[j % sz]? = some (normLit u) := by rw [hlit.2, List.getElem?_map, hzj]; rfl
            have h2 := flatten_get hes (i := j / sz) (k := j % sz) (e := zc) (by simp [hd]) hcc
            have h3 : j / sz * sz + j % sz = j := by rw [Nat.mul_comm]; exact Nat.div_add_mod j sz
            rw [h3, hc] at h2
            simp only [Option.some.injEq] at h2
            subst h2
            exact normLit_own (litB_ok ((List.all_eq_true.1 hlit.1) u (List.mem_of_getElem? hzj)))
        obtain ⟨hf, hn⟩ := hroom n (Nat.le_refl _) (by simp)
        have hsz' : w.heap.size < w'.heap.size := by
          have := r2.lt w.heap.size rfl
          exact this.2
        obtain ⟨ι', k1, k2⟩ := h.makeArr (ids := []) hf hn (by simp) (fun b hb _ => r3.block b hb (by simp)) r3.size r3.os r3.output (fun b hb => .inr ⟨by omega, by omega⟩) harr rfl
        refine EOK.value ?_ k1 k2
        have hk' : ((k.toNat : Nat) : Int) = k := Int.toNat_of_nonneg h0
        rw [hk'] at r1
        simp only [execOp, ho, ← opdEq_ok hc.2, int_rel h hk]
        exact run_v _ r1
      · cases e
    · cases e
  · cases e

end
end Go.Proofs.Ytamcedjjlokfhaa.Ab
