/- The abstract machine, part 36: maps. No condition. -/
import Derived.Test.YtamcedjjlokfhaaAb35
import Derived.ChangeMaps4
namespace Go.Proofs.Ytamcedjjlokfhaa.Ab
open Go Go.MapKept Go.ChangeMaps
set_option linter.unusedVariables false

def sameD : TypeDesc → TypeDesc → Bool
  | .int k, .int k' => decide (k = k')
  | .string, .string => true
  | _, _ => false
theorem sameD_ok {a b : TypeDesc} (h : sameD a b = true) : a = b := by
  cases a <;> cases b <;> simp_all [sameD]
def keyB : TypeDesc → Value → Bool
  | .int k, .int k' _ => decide (k' = k)
  | .string, .string _ => true
  | _, _ => false
theorem keyB_ok {d : TypeDesc} {v : Value} (h : keyB d v = true) : IsKey d v := by
  cases d <;> cases v <;> simp_all [keyB, IsKey]
def litEq : Value → Value → Bool
  | .int k a, .int k' b => decide (k = k') && decide (a = b)
  | .slice none 0 0, .slice none 0 0 => true
  | _, _ => false
theorem litEq_ok {a b : Value} (h : litEq a b = true) : a = b := by
  unfold litEq at h
  split at h <;> simp_all

section tables
variable (P : Program)
def tmap (T : TypeId) : Option (TypeDesc × TypeId × TypeId) := match P.underlying T with
  | some (.map kt et) => match P.underlying kt with | some d => some (d, kt, et) | none => none
  | _ => none
/-- the zero value of a type with one cell -/
def tzero (T : TypeId) : Option Value := match P.info? T with
  | some i => match i.zero with
    | some z => match z.cells.toList with
      | [v] => if litB z then some z else none
      | _ => none
    | none => none
  | none => none
def zOK (z : Value) : Option Value → Bool
  | none => true
  | some v => litEq v z
end tables

/-- the content of a map that holds nothing -/
def emptyF (k : MK) : Value → Option Cell := fun _ => k.z.map normLit
def okMK (k : MK) : Bool := match k.z with | none => true | some v => litB v
theorem emptyF_ok {k : MK} (h : okMK k = true) (key : Value) : Empt k.z (emptyF k key) := by
  unfold okMK at h
  unfold emptyF
  cases e : k.z with
  | none => exact .inl rfl
  | some v =>
    rw [e] at h
    exact .inr ⟨v, rfl, litB_ok h, .inl rfl⟩
/-- what a look-up finds -/
def LookAt (z : Value) (f : Value → Option Cell) (key : Value) (c : Cell) : Prop := f key = some c ∨ (f key = none ∧ c = normLit z)
/-- f' is f but at one key -/
def UpdF (d : TypeDesc) (f f' : Value → Option Cell) (key : Value) (c : Option Cell) : Prop := f' key = c ∧ ∀ k, IsKey d k → k ≠ key → f' k = f k

section
variable {P : Program} {E : Ent} {s : St} {ι : Interp} {a : Act} {w : World}

theorem tmap_ok {T : TypeId} {d : TypeDesc} {kt et : TypeId} (h : tmap P T = some (d, kt, et)) : P.underlying T = some (.map kt et) ∧ P.underlying kt = some d := by
  unfold tmap at h
  split at h
  · rename_i kt' et' h1
    split at h
    · rename_i d' h2
      simp only [Option.some.injEq, Prod.mk.injEq] at h
      obtain ⟨rfl, rfl, rfl⟩ := h
      exact ⟨h1, h2⟩
    · cases h
  · cases h
theorem tzero_ok {T : TypeId} {z : Value} (h : tzero P T = some z) : litOK z ∧ ∀ w : World, (zeroValue T).run P w = .ok z w := by
  unfold tzero at h
  split at h
  · rename_i i hi
    split at h
    · rename_i z' hz
      split at h
      · split at h
        · rename_i hb
          simp only [Option.some.injEq] at h; subst h
          exact ⟨litB_ok hb, fun w => by simp [zeroValue, typeInfo, hi, hz]⟩
        · cases h
      · cases h
    · cases h
  · cases h

/-- a map's value, as the model's operations see it -/
theorem mapOb (h : Rel E s ι a w) {id : Nat} {nn : Bool} {k : MK} {f : Value → Option Cell} (ho : s.obj id = .map nn k f) :
    (nn = true ∧ (∀ b, ¬ ι.fp id b) ∧ ∀ key, IsKey k.d key → Empt k.z (f key)) ∨ (nn = false ∧ MapRel w k (ι.fp id) (ι.blk id) f) := by
  have := h.objs id
  rw [ho] at this
  cases nn with
  | true => exact .inl ⟨rfl, this⟩
  | false => exact .inr ⟨rfl, this⟩

theorem empt_look {z : Value} {o : Option Cell} {zo : Option Value} (hz : zOK z zo = true) (he : Empt zo o) {c : Cell} (hc : o = some c ∨ (o = none ∧ c = normLit z)) : c = normLit z ∨ c = .any := by
  rcases he with h1 | ⟨v, h1, h2, h3⟩
  · rcases hc with h | ⟨_, h⟩
    · rw [h1] at h; cases h
    · exact .inl h
  · subst h1
    have := litEq_ok hz
    subst this
    rcases h3 with h3 | h3 <;> rcases hc with h | ⟨h, _⟩ <;> rw [h3] at h <;> cases h
    · exact .inl rfl
    · exact .inr rfl

/-- the run of a look-up -/
theorem look_run {T kt et : TypeId} {d : TypeDesc} {m : Value} {es : Array MapEntry} {key z : Value} (hT : P.underlying T = some (.map kt et)) (hd : P.underlying kt = some d) (hk : IsKey d key) (hz : ∀ w : World, (zeroValue et).run P w = .ok z w)
    (hks : ∀ e ∈ es.toList, IsKey d e.key) (hm : (m = .map none ∧ es = #[]) ∨ ∃ b clock, m = .map (some b) ∧ w.heap[b]? = some (.map es clock)) (ok : Bool) :
    ((∀ e ∈ es.toList, e.key ≠ key) ∧ (Instr.lookup T m key ok).run P w = .ok (if ok then .tuple #[z, .bool false] else z) w) ∨
    (∃ (j : Nat) (e : MapEntry), es[j]? = some e ∧ e.key = key ∧ (Instr.lookup T m key ok).run P w = .ok (if ok then .tuple #[e.val, .bool true] else e.val) w) := by
  rcases findNow_spec hk es.toList 0 hks with ⟨h1, h2⟩ | ⟨j, e, h1, h2, h3⟩
  · refine .inl ⟨h2, ?_⟩
    rcases hm with ⟨rfl, rfl⟩ | ⟨b, clock, rfl, hb⟩
    · simp [Instr.lookup, run_underlying hT, run_checkKey hd hk, run_findKey hd h1, hz, Result.andThen]
    · simp [Instr.lookup, run_underlying hT, MapKept.run_getObj_map hb, run_checkKey hd hk, run_findKey hd h1, hz, Result.andThen]
  · refine .inr ⟨j, e, by simpa using h2, h3, ?_⟩
    rcases hm with ⟨rfl, rfl⟩ | ⟨b, clock, rfl, hb⟩
    · simp at h2
    · simp [Instr.lookup, run_underlying hT, MapKept.run_getObj_map hb, run_checkKey hd hk, run_findKey hd h1, Result.andThen]

def eLookup (P : Program) (s : St) (T : TypeId) (m x : Operand) (ok : Bool) (n : Nat) (q : List Orc) : Option (Res × List Item × List Orc) :=
  match s.ac m with
  | some (.mref id) => match s.obj id, s.lit x, tmap P T with
    | .map nn k f, some key, some (d, kt, et) => match tzero P et with
      | some z => if (sameD k.d d && keyB d key && zOK z k.z) = true then
          (match q, ok with
          | .cells [c] :: q, false => some ({ val := .sv (.one (cellAC (some id) c)) }, [.obl (LookAt z f key c)], q)
          | .cells [c] :: .bool b :: q, true => match k.z with
            | none => some ({ val := .tup [.one (cellAC (some id) c), .one (.val (.lit (.bool b)))] }, [.obl ((f key = some c ∧ b = true) ∨ (f key = none ∧ c = normLit z ∧ b = false))], q)
            | some _ => none
          | .taken es sz f' :: q, false => some ({ val := .sv (.one (.ref n)), new := [.arr true sz es], upd := [(id, .map nn k f')], inv := [id] },
              [.obl (LookAt z f key (.list es)), .obl (UpdF k.d f f' key (some .any)), .obl (k.z = some z), .obl (∀ x ∈ es, x.length = sz)], q)
          | _, _ => none) else none
      | none => none
    | _, _, _ => none
  | _ => none

def eMakeMap (P : Program) (T : TypeId) (hint : Option Operand) (n : Nat) (q : List Orc) : Option (Res × List Item × List Orc) :=
  match hint, q with
  | none, .mkmap k :: q => if okMK k = true then some ({ val := .sv (.one (.mref n)), new := [.map false k (emptyF k)] }, [], q) else none
  | _, _ => none

def eMapUpdate (P : Program) (s : St) (T : TypeId) (m x y : Operand) (q : List Orc) : Option (Res × List Item × List Orc) :=
  match s.ac m, q with
  | some (.mref id), .upd f' :: q => match s.obj id, s.lit x, tmap P T, s.ac y with
    | .map nn k f, some key, some (d, kt, et), some v => if (sameD k.d d && keyB d key) = true then
        (match absorbOwn s [v] with
        | some ([c], ids) => if ids.elem id = false then
            some ({ inv := [id], upd := killed ids ++ [(id, .map nn k f')] }, [.obl (nn = false), .obl (UpdF k.d f f' key (some c))], q) else none
        | _ => none) else none
    | _, _, _, _ => none
  | _, _ => none

def eMapDelete (P : Program) (s : St) (args : Array Operand) (tys : Array TypeId) (q : List Orc) : Option (Res × List Item × List Orc) :=
  match args.toList, tys.toList, q with
  | [m, x], T :: _, .upd f' :: q => match s.ac m with
    | some (.mref id) => match s.obj id, s.lit x, tmap P T with
      | .map nn k f, some key, some (d, kt, et) => if (sameD k.d d && keyB d key) = true then
          some ({ inv := [id], upd := [(id, .map nn k f')] }, [.obl (nn = false), .obl (UpdF k.d f f' key none)], q) else none
      | _, _, _ => none
    | _ => none
  | _, _, _ => none

def eMapNil (P : Program) (s : St) (op : BinOp) (T : TypeId) (x y : Operand) : Option Res :=
  match P.underlying T with
  | some (.map _ _) => match s.ac x, s.lit y with
    | some (.mref id), some (.map none) => match s.obj id with
      | .map nn _ _ => match op with
        | .eql => some { val := lit1 (.bool nn) }
        | .neq => some { val := lit1 (.bool (!nn)) }
        | _ => none
      | _ => none
    | some (.val (.lit (.map none))), some (.map none) => match op with
      | .eql => some { val := lit1 (.bool true) }
      | .neq => some { val := lit1 (.bool false) }
      | _ => none
    | _, _ => none
  | _ => none

theorem setBlock_at {b : Nat} {o o' : Obj} (hb : w.heap[b]? = some o) : (setBlock w b o').heap[b]? = some o' := (MapKept.heap_set hb).1
theorem setBlock_other {b x : Nat} {o o' : Obj} (hb : w.heap[b]? = some o) (hx : x ≠ b) : (setBlock w b o').heap[x]? = w.heap[x]? := (MapKept.heap_set hb).2 x hx

/-- a map of the function's own is changed; what is put into it goes over to it -/
theorem Rel.setMap (h : Rel E s ι a w) {id : Nat} {k : MK} {f f' : Value → Option Cell} (hob : s.obj id = .map false k f) (hreg : ∀ t, ∀ c ∈ (s.reg t).acs, ∀ i, c.src = some i → i ≠ id)
    (hbox : ∀ k, ∀ c ∈ (s.obj k).acs, ∀ i, c.src = some i → i ≠ id) {ids : List Nat} (hids : ∀ j ∈ ids, isArr (s.obj j)) (hnin : id ∉ ids) {es es' : Array MapEntry} {clock clock' : Nat}
    (hb : w.heap[ι.blk id]? = some (.map es clock)) (hfpb : ι.fp id (ι.blk id))
    (hm : MapRel (setBlock w (ι.blk id) (.map es' clock')) k (fun b => ι.fp id b ∨ ∃ j ∈ ids, ι.fp j b) (ι.blk id) f') :
    ∃ ι', Rel E ((s.updObs (killed ids)).setOb id (.map false k f')) ι' a (setBlock w (ι.blk id) (.map es' clock')) := by
  have hlenid : id < s.objs.length := lt_of_obj hob (by simp)
  have hlen : ∀ j ∈ ids, j < s.objs.length := fun j hj => by
    obtain ⟨o, z, e, hjo⟩ := hids j hj
    exact lt_of_obj hjo (by simp)
  have hobj : ∀ x, ((s.updObs (killed ids)).setOb id (.map false k f')).obj x = if x = id then .map false k f' else if x ∈ ids then .dead else s.obj x := by
    intro x
    rw [obj_setOb (by rw [updObs_length]; exact hlenid), obj_killed ids s hlen]
  have hother : ∀ b, b ≠ ι.blk id → (setBlock w (ι.blk id) (.map es' clock')).heap[b]? = w.heap[b]? := fun b hne => setBlock_other hb hne
  let ι' : Interp := { ι with fp := fun x b => if x = id then ι.fp id b ∨ ∃ j ∈ ids, ι.fp j b else if x ∈ ids then False else ι.fp x b }
  have hfpo : ∀ x b, x ≠ id → ι.fp x b → b ≠ ι.blk id := fun x b hx hxb e => h.disj x id b hx hxb (by rw [e]; exact hfpb)
  have hg : ∀ b, ι.G b → b ≠ ι.blk id := fun b hb e => h.gfp id b (by rw [e]; exact hfpb) hb
  have hx : Ext (fun x => x ≠ id) w ι s.obj (setBlock w (ι.blk id) (.map es' clock')) ι' ((s.updObs (killed ids)).setOb id (.map false k f')).obj := by
    refine ⟨fun b hb => ⟨hb, hother b (hg b hb)⟩, fun x => ?_⟩
    rw [hobj x]
    by_cases hk : x = id
    · subst hk; rw [if_pos rfl, hob]; exact ⟨rfl, rfl, rfl, fun hk => (hk rfl).elim⟩
    · rw [if_neg hk]
      by_cases hk2 : x ∈ ids
      · rw [if_pos hk2]
        obtain ⟨o, z, e, hjo⟩ := hids x hk2
        rw [hjo]; trivial
      · rw [if_neg hk2]
        cases hkk : s.obj x with
        | free => trivial
        | dead => trivial
        | box cs => rfl
        | arr own' sz' es' => exact ⟨rfl, rfl, fun _ b hb => ⟨.inl (by simp [ι', hk, hk2, hb]), hother b (hfpo x b hk hb)⟩⟩
        | map _ _ _ => exact ⟨rfl, rfl, rfl, fun _ b hb => ⟨.inl (by simp [ι', hk, hk2, hb]), hother b (hfpo x b hk hb)⟩⟩
  have hfp : ∀ x b, ι'.fp x b → (x = id ∧ (ι.fp id b ∨ ∃ j ∈ ids, ι.fp j b)) ∨ (x ≠ id ∧ x ∉ ids ∧ ι.fp x b) := by
    intro x b hb
    simp only [ι'] at hb
    split at hb
    · exact .inl ⟨‹_›, hb⟩
    · split at hb
      · exact hb.elim
      · exact .inr ⟨‹_›, ‹_›, hb⟩
  have hcross : ∀ b, (ι.fp id b ∨ ∃ j ∈ ids, ι.fp j b) → ∀ x, x ≠ id → x ∉ ids → ¬ ι.fp x b := by
    intro b hb x h8 h9 hk
    rcases hb with hb | ⟨j, hj, hjb⟩
    · exact h.disj x id b h8 hk hb
    · exact h.disj x j b (fun e => h9 (e ▸ hj)) hk hjb
  have hin : ∀ b, (ι.fp id b ∨ ∃ j ∈ ids, ι.fp j b) → ∃ x, ι.fp x b := fun b hb => hb.elim (fun hb => ⟨id, hb⟩) fun ⟨j, _, hb⟩ => ⟨j, hb⟩
  refine ⟨ι', Rel.step h hx (fun t => .inl ⟨?_, fun c hc i' hi' => hreg t c hc i' hi'⟩) ?_ (updObs_m _ _) (fun x => ?_) ?_ ?_ ?_ ?_ ?_ (fun b hlt hM => hother b fun e => ?_) (by simp [setBlock]) rfl rfl⟩
  · show ((s.updObs (killed ids)).setOb id _).regs.getD t _ = _
    simp only [St.setOb, updObs_regs]; rfl
  · simp only [St.setOb, updObs_regs]
  · rw [hobj x]
    by_cases hk : x = id
    · subst hk; right
      rw [if_pos rfl]
      show MapRel _ k (ι'.fp x) (ι.blk x) f'
      have : ι'.fp x = fun b => ι.fp x b ∨ ∃ j ∈ ids, ι.fp j b := by funext b; simp [ι']
      rw [this]; exact hm
    · rw [if_neg hk]
      by_cases hk2 : x ∈ ids
      · right; rw [if_pos hk2]; intro b hb
        simp [ι', hk, hk2] at hb
      · left; rw [if_neg hk2]
        exact ⟨rfl, ⟨rfl, rfl, fun b => by simp [ι', hk, hk2], fun b hb => hother b (hfpo x b hk hb)⟩, fun c hc i hi => hbox x c hc i hi⟩
  · intro x y b hne hx1 hy1
    rcases hfp x b hx1 with ⟨rfl, f1⟩ | ⟨n1, n2, f1⟩ <;> rcases hfp y b hy1 with ⟨rfl, f2⟩ | ⟨m1, m2, f2⟩
    · exact hne rfl
    · exact hcross b f1 y m1 m2 f2
    · exact hcross b f2 x n1 n2 f1
    · exact h.disj x y b hne f1 f2
  · intro x b hb hgb
    rcases hfp x b hb with ⟨rfl, f1⟩ | ⟨n1, n2, f1⟩
    · obtain ⟨y, hy⟩ := hin b f1
      exact h.gfp y b hy hgb
    · exact h.gfp x b f1 hgb
  · intro x b hb
    rcases hfp x b hb with ⟨rfl, f1⟩ | ⟨n1, n2, f1⟩
    · obtain ⟨y, hy⟩ := hin b f1
      exact h.own y b hy
    · exact h.own x b f1
  · intro x b hb
    have : b < w.heap.size := by
      rcases hfp x b hb with ⟨rfl, f1⟩ | ⟨n1, n2, f1⟩
      · obtain ⟨y, hy⟩ := hin b f1
        exact h.lt y b hy
      · exact h.lt x b f1
    simpa [setBlock] using this
  · intro b hb
    have := h.glt b hb
    simpa [setBlock] using this
  · subst e
    rcases h.own id _ hfpb with h1 | h1
    · exact hM h1
    · omega

/-- the entries behind 'm[key] = v' -/
theorem MapRel.put {T kt et : TypeId} {k : MK} {F F2 : Nat → Prop} {b : Nat} {f f' : Value → Option Cell} {key v : Value} {c : Cell} (h : MapRel w k F b f) (hT : P.underlying T = some (.map kt et)) (hd : P.underlying kt = some k.d) (hk : IsKey k.d key)
    (hv : OwnC w F2 v c) (hF2 : ∀ x, F2 x → ¬ F x) (hF2b : ¬ F2 b) (hu : UpdF k.d f f' key (some c)) :
    ∃ es clock es' clock', w.heap[b]? = some (.map es clock) ∧ F b ∧ (Instr.mapUpdate T (.map (some b)) key v).run P w = .ok () (setBlock w b (.map es' clock')) ∧
      MapRel (setBlock w b (.map es' clock')) k (fun x => F x ∨ F2 x) b f' := by
  obtain ⟨es, clock, Fs, h1, h2, h3, h4, h5, h6, h7, h8⟩ := h
  have hoth : ∀ (o' : Obj) (x : Nat), x ≠ b → (setBlock w b o').heap[x]? = w.heap[x]? := fun o' x hx => setBlock_other h1 hx
  have hvown : ∀ o', OwnC (setBlock w b o') F2 v c := fun o' => hv.mono fun x hx => hoth o' x fun e => hF2b (e ▸ hx)
  have hold : ∀ o' j (e : MapEntry) c', OwnC w (Fs j) e.val c' → OwnC (setBlock w b o') (Fs j) e.val c' := fun o' j e c' ho => ho.mono fun x hx => hoth o' x (h3 j x hx).2
  rcases findNow_spec hk es.toList 0 h5 with ⟨e1, e2⟩ | ⟨j, e, e1, e2, e3⟩
  · refine ⟨es, clock, es.push { key := key, val := v, born := clock }, clock + 1, h1, h2, ?_, ?_⟩
    · simp [Instr.mapUpdate, run_underlying hT, MapKept.run_getObj_map h1, run_checkKey hd hk, run_findKey hd e1, run_setObj_map _ h1, Result.andThen, setBlock]
    · refine ⟨_, _, fun i x => if i = es.size then F2 x else Fs i x ∧ i < es.size, setBlock_at h1, .inl h2, ?_, ?_, ?_, ?_, ?_, ?_⟩
      · intro i x hx
        split at hx
        · exact ⟨.inr hx, fun e => hF2b (e ▸ hx)⟩
        · exact ⟨.inl (h3 i x hx.1).1, (h3 i x hx.1).2⟩
      · intro i i' x hne hx hx'
        split at hx <;> split at hx'
        · omega
        · exact hF2 x hx (h3 _ x hx'.1).1
        · exact hF2 x hx' (h3 _ x hx.1).1
        · exact h4 i i' x hne hx.1 hx'.1
      · intro y hy
        simp only [Array.toList_push, List.mem_append, List.mem_singleton] at hy
        rcases hy with hy | rfl
        · exact h5 y hy
        · exact hk
      · simp only [Array.toList_push, List.map_append, List.map_cons, List.map_nil]
        rw [List.nodup_append]
        refine ⟨h6, by simp, ?_⟩
        intro x hx y hy
        obtain ⟨z, hz, rfl⟩ := List.mem_map.1 hx
        simp only [List.mem_singleton] at hy
        rw [hy]; exact e2 z hz
      · intro key' hk' hne
        have hkk : key' ≠ key := fun e => by
          have := hne { key := key, val := v, born := clock } (by simp)
          exact this e.symm
        rw [hu.2 key' hk' hkk]
        exact h7 key' hk' fun y hy => hne y (by simp [hy])
      · intro i y hy
        rw [Array.getElem?_push] at hy
        by_cases hi : i = es.size
        · rw [if_pos hi] at hy
          simp only [Option.some.injEq] at hy
          subst hy
          simp only [if_pos hi]
          exact ⟨c, hu.1, hvown _⟩
        · rw [if_neg hi] at hy
          simp only [if_neg hi]
          obtain ⟨c', f1, f2⟩ := h8 i y hy
          have hne : y.key ≠ key := e2 y (Array.mem_toList_iff.2 (Array.mem_of_getElem? hy))
          refine ⟨c', by rw [hu.2 _ (h5 y (Array.mem_toList_iff.2 (Array.mem_of_getElem? hy))) hne]; exact f1, OwnC.wide (hold _ i y c' f2) fun x hx => ⟨hx, (Array.getElem?_eq_some_iff.1 hy).1⟩⟩
  · have hj : es[j]? = some e := by simpa using e2
    refine ⟨es, clock, es.modify j fun e => { e with key := key, val := v }, clock, h1, h2, ?_, ?_⟩
    · simp [Instr.mapUpdate, run_underlying hT, MapKept.run_getObj_map h1, run_checkKey hd hk, run_findKey hd e1, hj, e3, run_keyThatStays hk, run_setObj_map _ h1, Result.andThen, setBlock]
    · have hget : ∀ i, (es.modify j fun e => { e with key := key, val := v })[i]? = if i = j then some { e with key := key, val := v } else es[i]? := by
        intro i
        rw [Array.getElem?_modify]
        by_cases hi : i = j
        · subst hi; simp [hj]
        · simp [hi, Ne.symm hi]
      have hkeys : (es.modify j fun e => { e with key := key, val := v }).toList.map (·.key) = es.toList.map (·.key) :=
        modify_keys j _ fun e' he' => by rw [hj] at he'; cases he'; exact e3.symm
      refine ⟨_, _, fun i x => if i = j then F2 x else Fs i x, setBlock_at h1, .inl h2, ?_, ?_, ?_, ?_, ?_, ?_⟩
      · intro i x hx
        split at hx
        · exact ⟨.inr hx, fun e => hF2b (e ▸ hx)⟩
        · exact ⟨.inl (h3 i x hx).1, (h3 i x hx).2⟩
      · intro i i' x hne hx hx'
        split at hx <;> split at hx'
        · omega
        · exact hF2 x hx (h3 _ x hx').1
        · exact hF2 x hx' (h3 _ x hx).1
        · exact h4 i i' x hne hx hx'
      · exact isKey_modify h5 _ _ fun e' he' => by rw [hj] at he'; cases he'; exact e3.symm
      · rw [hkeys]; exact h6
      · intro key' hk' hne
        have hmem : ∀ y ∈ es.toList, y.key ≠ key' := by
          intro y hy e'
          have : y.key ∈ (es.modify j fun e => { e with key := key, val := v }).toList.map (·.key) := by rw [hkeys]; exact List.mem_map.2 ⟨y, hy, rfl⟩
          obtain ⟨z, hz, hzk⟩ := List.mem_map.1 this
          exact hne z hz (hzk.trans e')
        have hkk : key' ≠ key := fun e' => hmem e (by have := Array.mem_of_getElem? hj; simpa using this) (e3.trans e'.symm)
        rw [hu.2 key' hk' hkk]
        exact h7 key' hk' hmem
      · intro i y hy
        rw [hget] at hy
        by_cases hi : i = j
        · rw [if_pos hi] at hy
          simp only [Option.some.injEq] at hy
          subst hy
          simp only [if_pos hi]
          exact ⟨c, hu.1, hvown _⟩
        · rw [if_neg hi] at hy
          simp only [if_neg hi]
          obtain ⟨c', f1, f2⟩ := h8 i y hy
          have hne : y.key ≠ key := by
            intro e'
            rw [← e3] at e'
            have h9 : (es.toList.map (·.key))[i]? = some y.key := by simp [hy]
            have h10 : (es.toList.map (·.key))[j]? = some e.key := by simp [hj]
            have hlt : i < (es.toList.map (·.key)).length := (List.getElem?_eq_some_iff.1 h9).1
            exact hi ((List.getElem?_inj hlt h6).1 (by rw [h9, h10, e']))
          exact ⟨c', by rw [hu.2 _ (h5 y (Array.mem_toList_iff.2 (Array.mem_of_getElem? hy))) hne]; exact f1, hold _ i y c' f2⟩

/-- the entries behind 'delete(m, key)' -/
theorem MapRel.del {T kt et : TypeId} {k : MK} {F : Nat → Prop} {b : Nat} {f f' : Value → Option Cell} {key : Value} {tys : Array TypeId} {ty : TypeId} (h : MapRel w k F b f) (ht : tys[0]? = some T) (hT : P.underlying T = some (.map kt et)) (hd : P.underlying kt = some k.d) (hk : IsKey k.d key)
    (hu : UpdF k.d f f' key none) :
    ∃ es clock es' clock', w.heap[b]? = some (.map es clock) ∧ F b ∧ (Builtin.delete_ tys ty #[.map (some b), key]).run P w = .ok (.tuple #[]) (setBlock w b (.map es' clock')) ∧
      MapRel (setBlock w b (.map es' clock')) k F b f' := by
  obtain ⟨es, clock, Fs, h1, h2, h3, h4, h5, h6, h7, h8⟩ := h
  have hoth : ∀ (o' : Obj) (x : Nat), x ≠ b → (setBlock w b o').heap[x]? = w.heap[x]? := fun o' x hx => setBlock_other h1 hx
  have hold : ∀ o' j (e : MapEntry) c', OwnC w (Fs j) e.val c' → OwnC (setBlock w b o') (Fs j) e.val c' := fun o' j e c' ho => ho.mono fun x hx => hoth o' x (h3 j x hx).2
  rcases findNow_spec hk es.toList 0 h5 with ⟨e1, e2⟩ | ⟨j, e, e1, e2, e3⟩
  · refine ⟨es, clock, es, clock, h1, h2, ?_, ?_⟩
    · simp [Builtin.delete_, ht, run_underlying hT, MapKept.run_getObj_map h1, run_checkKey hd hk, run_findKey hd e1, run_setObj_map _ h1, Result.andThen, setBlock]
    · refine ⟨_, _, Fs, setBlock_at h1, h2, h3, h4, h5, h6, fun key' hk' hne => ?_, fun i y hy => ?_⟩
      · by_cases hkk : key' = key
        · subst hkk; rw [hu.1]; exact .inl rfl
        · rw [hu.2 key' hk' hkk]; exact h7 key' hk' hne
      · obtain ⟨c', f1, f2⟩ := h8 i y hy
        exact ⟨c', by rw [hu.2 _ (h5 y (Array.mem_toList_iff.2 (Array.mem_of_getElem? hy))) (e2 y (Array.mem_toList_iff.2 (Array.mem_of_getElem? hy)))]; exact f1, hold _ i y c' f2⟩
  · have hj : es[j]? = some e := by simpa using e2
    have hjl : j < es.size := (Array.getElem?_eq_some_iff.1 hj).1
    refine ⟨es, clock, es.eraseIdxIfInBounds j, clock, h1, h2, ?_, ?_⟩
    · simp [Builtin.delete_, ht, run_underlying hT, MapKept.run_getObj_map h1, run_checkKey hd hk, run_findKey hd e1, run_setObj_map _ h1, Result.andThen, setBlock]
    · have hl : (es.eraseIdxIfInBounds j).toList = es.toList.eraseIdx j := by
        unfold Array.eraseIdxIfInBounds
        rw [dif_pos hjl]; simp
      have hget : ∀ i : Nat, (es.eraseIdxIfInBounds j)[i]? = if i < j then es[i]? else es[i + 1]? := by
        intro i
        have h9 : (es.eraseIdxIfInBounds j)[i]? = (es.eraseIdxIfInBounds j).toList[i]? := by rw [Array.getElem?_toList]
        rw [h9, hl, List.getElem?_eraseIdx]
        by_cases hi : i < j <;> simp [hi]
      have hsub : ((es.eraseIdxIfInBounds j).toList).Sublist es.toList := by rw [hl]; exact List.eraseIdx_sublist _ _
      have huniq : ∀ (i : Nat) (y : MapEntry), es[i]? = some y → y.key = key → i = j := by
        intro i y hy e'
        rw [← e3] at e'
        have h9 : (es.toList.map (·.key))[i]? = some y.key := by simp [hy]
        have h10 : (es.toList.map (·.key))[j]? = some e.key := by simp [hj]
        have hlt : i < (es.toList.map (·.key)).length := (List.getElem?_eq_some_iff.1 h9).1
        exact (List.getElem?_inj hlt h6).1 (by rw [h9, h10, e'])
      refine ⟨_, _, fun i x => if i < j then Fs i x else Fs (i + 1) x, setBlock_at h1, h2, ?_, ?_, fun y hy => h5 y (hsub.subset hy), (hsub.map _).nodup h6, ?_, ?_⟩
      · intro i x hx
        split at hx
        · exact h3 i x hx
        · exact h3 _ x hx
      · intro i i' x hne hx hx'
        split at hx <;> split at hx'
        · exact h4 i i' x hne hx hx'
        · exact h4 i (i' + 1) x (by omega) hx hx'
        · exact h4 (i + 1) i' x (by omega) hx hx'
        · exact h4 (i + 1) (i' + 1) x (by omega) hx hx'
      · intro key' hk' hne
        by_cases hkk : key' = key
        · subst hkk; rw [hu.1]; exact .inl rfl
        · rw [hu.2 key' hk' hkk]
          refine h7 key' hk' fun y hy => ?_
          obtain ⟨i, hi⟩ := List.getElem?_of_mem hy
          have hi' : es[i]? = some y := by simpa using hi
          by_cases hij : i = j
          · subst hij
            rw [hj] at hi'
            cases hi'
            rw [e3]; exact fun e' => hkk e'.symm
          · by_cases hlt : i < j
            · exact hne y (Array.mem_toList_iff.2 (Array.mem_of_getElem? (by rw [hget, if_pos hlt]; exact hi')))
            · refine hne y (Array.mem_toList_iff.2 (Array.mem_of_getElem? (i := i - 1) ?_))
              rw [hget, if_neg (by omega), show i - 1 + 1 = i by omega]; exact hi'
      · intro i y hy
        rw [hget] at hy
        by_cases hlt : i < j
        · rw [if_pos hlt] at hy
          simp only [if_pos hlt]
          obtain ⟨c', f1, f2⟩ := h8 i y hy
          exact ⟨c', by rw [hu.2 _ (h5 y (Array.mem_toList_iff.2 (Array.mem_of_getElem? hy))) fun e' => by have := huniq i y hy e'; omega]; exact f1, hold _ i y c' f2⟩
        · rw [if_neg hlt] at hy
          simp only [if_neg hlt]
          obtain ⟨c', f1, f2⟩ := h8 (i + 1) y hy
          exact ⟨c', by rw [hu.2 _ (h5 y (Array.mem_toList_iff.2 (Array.mem_of_getElem? hy))) fun e' => by have := huniq _ y hy e'; omega]; exact f1, hold _ (i + 1) y c' f2⟩
end
end Go.Proofs.Ytamcedjjlokfhaa.Ab
