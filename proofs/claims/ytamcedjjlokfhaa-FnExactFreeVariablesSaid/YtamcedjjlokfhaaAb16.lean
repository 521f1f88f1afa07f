/- The abstract machine, part 16: what is handed over meets the callee's contract. No condition. -/
import Derived.Test.YtamcedjjlokfhaaAb15
namespace Go.Proofs.Ytamcedjjlokfhaa.Ab
open Go
set_option linter.unusedVariables false

/-- how a cell of the caller's is seen by the callee -/
inductive PAC (s : St) (emb : List (Option Nat)) (lent : List Nat) : AC → AC → Prop
  | top {c : AC} : PAC s emb lent c .top
  | val {c : Cell} : PAC s emb lent (.val c) (.val c)
  | nil : PAC s emb lent (.val (.lit (.slice none 0 0))) (.val (.list []))
  | bor {id : Nat} {c : Cell} (h : live s.obj (some id)) (hl : id ∈ lent) : PAC s emb lent (.bor id c) (.val c)
  | lend {id : Nat} {own : Bool} {sz : Nat} {es : List (List Cell)} (h : s.obj id = .arr own sz es) (hl : id ∈ lent) : PAC s emb lent (.ref id) (.val (.list es))
  | ref {id j : Nat} (h : emb[j]? = some (some id)) (hl : ∃ own sz es, s.obj id = .arr own sz es) : PAC s emb lent (.ref id) (.ref j)
  | own {j : Nat} (h : emb[j]? = some none) : PAC s emb lent (.val (.lit (.slice none 0 0))) (.ref j)
  | ptr {id j : Nat} {cs : List AC} (h : emb[j]? = some (some id)) (hb : s.obj id = .box cs) : PAC s emb lent (.ptr id 0) (.ptr j 0)
  | mref {id j : Nat} {nn : Bool} {k : MK} {f : Value → Option Cell} (h : emb[j]? = some (some id)) (hb : s.obj id = .map nn k f) : PAC s emb lent (.mref id) (.mref j)

def PObj (s : St) (emb : List (Option Nat)) (lent : List Nat) (id : Nat) (o : Ob) : Prop :=
  (∃ own sz es, s.obj id = .arr own sz es ∧ o = .arr own sz es) ∨ (∃ cs cs', s.obj id = .box cs ∧ o = .box cs' ∧ All2 (PAC s emb lent) cs cs') ∨ (∃ nn k f, s.obj id = .map nn k f ∧ o = .map nn k f)

structure PassOK (s : St) (p : Pass) : Prop where
  len : p.emb.length = p.objs.length
  som : ∀ (j id : Nat), p.emb[j]? = some (some id) → ∃ o, p.objs[j]? = some o ∧ PObj s p.emb p.lent id o
  non : ∀ (j : Nat), p.emb[j]? = some none → ∃ own sz, p.objs[j]? = some (.arr own sz [])
  inj : ∀ (j j' id : Nat), p.emb[j]? = some (some id) → p.emb[j']? = some (some id) → j = j'

theorem PAC.mono {s : St} {emb emb' : List (Option Nat)} {lent lent' : List Nat} (h1 : ∀ (j : Nat) x, emb[j]? = some x → emb'[j]? = some x) (h2 : ∀ i, i ∈ lent → i ∈ lent') {c c' : AC}
    (h : PAC s emb lent c c') : PAC s emb' lent' c c' := by
  cases h with
  | top => exact .top
  | val => exact .val
  | nil => exact .nil
  | bor h hl => exact .bor h (h2 _ hl)
  | lend h hl => exact .lend h (h2 _ hl)
  | ref h hl => exact .ref (h1 _ _ h) hl
  | own h => exact .own (h1 _ _ h)
  | ptr h hb => exact .ptr (h1 _ _ h) hb
  | mref h hb => exact .mref (h1 _ _ h) hb

theorem PObj.mono {s : St} {emb emb' : List (Option Nat)} {lent lent' : List Nat} (h1 : ∀ (j : Nat) x, emb[j]? = some x → emb'[j]? = some x) (h2 : ∀ i, i ∈ lent → i ∈ lent') {id : Nat} {o : Ob}
    (h : PObj s emb lent id o) : PObj s emb' lent' id o := by
  rcases h with h | ⟨cs, cs', h3, h4, h5⟩ | h
  · exact .inl h
  · exact .inr (.inl ⟨cs, cs', h3, h4, h5.imp fun a b h => h.mono h1 h2⟩)
  · exact .inr (.inr h)

def PSV (s : St) (emb : List (Option Nat)) (lent : List Nat) : SV → SV → Prop
  | .one c, .one c' => c' ≠ .top ∧ PAC s emb lent c c'
  | .agg cs, .agg cs' => All2 (PAC s emb lent) cs cs'
  | _, _ => False

theorem PSV.mono {s : St} {emb emb' : List (Option Nat)} {lent lent' : List Nat} (h1 : ∀ (j : Nat) x, emb[j]? = some x → emb'[j]? = some x) (h2 : ∀ i, i ∈ lent → i ∈ lent') {c c' : SV}
    (h : PSV s emb lent c c') : PSV s emb' lent' c c' := by
  cases c <;> cases c' <;> first | exact h.elim | exact ⟨h.1, h.2.mono h1 h2⟩ | exact All2.imp (fun a b h => PAC.mono h1 h2 h) h

theorem get_append {α : Type} {l l' : List α} {j : Nat} {x : α} (h : l[j]? = some x) : (l ++ l')[j]? = some x := by
  rw [List.getElem?_append_left (List.getElem?_eq_some_iff.1 h).1]; exact h

theorem lendAC_ok {s : St} {emb : List (Option Nat)} {c : AC} {c' : Cell} {l : List Nat} (e : lendAC s c = some (c', l)) : PAC s emb l c (.val c') := by
  unfold lendAC at e
  split at e
  · simp only [Option.some.injEq, Prod.mk.injEq] at e; obtain ⟨rfl, rfl⟩ := e; exact .nil
  · simp only [Option.some.injEq, Prod.mk.injEq] at e; obtain ⟨rfl, rfl⟩ := e; exact .val
  · split at e
    · rename_i hl
      simp only [Option.some.injEq, Prod.mk.injEq] at e; obtain ⟨rfl, rfl⟩ := e; exact .bor (liveB_ok hl) (by simp)
    · cases e
  · split at e
    · rename_i ho
      simp only [Option.some.injEq, Prod.mk.injEq] at e; obtain ⟨rfl, rfl⟩ := e; exact .lend ho (by simp)
    · cases e
  · cases e

theorem lendACs_ok {s : St} {emb : List (Option Nat)} : ∀ {cs cs' : List AC} {l : List Nat}, lendACs s cs = some (cs', l) → All2 (PAC s emb l) cs cs' ∧ ∀ c ∈ cs', c ≠ .top
  | [], cs', l, e => by simp only [lendACs, Option.some.injEq, Prod.mk.injEq] at e; obtain ⟨rfl, rfl⟩ := e; exact ⟨trivial, by simp⟩
  | c :: cs, cs', l, e => by
    simp only [lendACs] at e
    split at e
    · rename_i c' l1 r' l2 h1 h2
      simp only [Option.some.injEq, Prod.mk.injEq] at e; obtain ⟨rfl, rfl⟩ := e
      obtain ⟨i1, i2⟩ := lendACs_ok (emb := emb) h2
      refine ⟨⟨(lendAC_ok (emb := emb) h1).mono (fun _ _ h => h) fun i hi => List.mem_append_left _ hi, i1.imp fun a b h => h.mono (fun _ _ h => h) fun i hi => List.mem_append_right _ hi⟩, ?_⟩
      intro c hc
      rcases List.mem_cons.1 hc with rfl | hc
      · simp
      · exact i2 c hc
    · cases e

theorem passCells_ok {s : St} : ∀ {cs cs' : List AC} {emb emb' : List (Option Nat)} {obs : List Ob} {l : List Nat}, passCells s emb cs = some (emb', obs, cs', l) →
    ∃ ex : List Nat, emb' = emb ++ ex.map some ∧ obs.length = ex.length ∧ (∀ (j id : Nat), ex[j]? = some id → ∃ o, obs[j]? = some o ∧ ∀ emb lent, PObj s emb lent id o) ∧
      (∀ id ∈ ex, some id ∉ emb) ∧ (∀ (j j' id : Nat), ex[j]? = some id → ex[j']? = some id → j = j') ∧ All2 (PAC s emb' l) cs cs'
  | [], cs', emb, emb', obs, l, e => by
    simp only [passCells, Option.some.injEq, Prod.mk.injEq] at e
    obtain ⟨rfl, rfl, rfl, rfl⟩ := e
    exact ⟨[], by simp, rfl, by simp, by simp, by simp, trivial⟩
  | c :: cs, cs', emb, emb', obs, l, e => by
    simp only [passCells] at e
    split at e
    · rename_i k
      split at e
      · rename_i o sz es ho
        split at e
        · cases e
        · rename_i hnin
          split at e
          · rename_i emb1 obs1 cs1 l1 hr
            simp only [Option.some.injEq, Prod.mk.injEq] at e
            obtain ⟨rfl, rfl, rfl, rfl⟩ := e
            obtain ⟨ex, i1, i2, i3, i4, i5, i6⟩ := passCells_ok hr
            refine ⟨k :: ex, by rw [i1]; simp, by simp [i2], ?_, ?_, ?_, ?_, i6⟩
            · intro j id hj
              cases j with
              | zero => simp at hj; subst hj; exact ⟨_, rfl, fun _ _ => .inl ⟨o, sz, es, ho, rfl⟩⟩
              | succ j => simp at hj; obtain ⟨a, b, c⟩ := i3 j id hj; exact ⟨a, by simpa using b, c⟩
            · intro id hid
              rcases List.mem_cons.1 hid with rfl | hid
              · simpa using hnin
              · have := i4 id hid
                simp at this
                simpa using this.1
            · intro j j' id hj hj'
              have hk : ∀ j, ex[j]? ≠ some k := fun j hj => by
                have := i4 k (List.mem_of_getElem? hj)
                simp at this
              cases j with
              | zero => cases j' with
                | zero => rfl
                | succ j' => simp at hj hj'; subst hj; exact (hk j' hj').elim
              | succ j => cases j' with
                | zero => simp at hj hj'; subst hj'; exact (hk j hj).elim
                | succ j' => simp at hj hj'; rw [i5 j j' id hj hj']
            · refine .ref ?_ ⟨o, sz, es, ho⟩
              rw [i1, List.append_assoc, List.getElem?_append_right (Nat.le_refl _)]
              simp
          · cases e
      · cases e
    · rename_i k
      split at e
      · rename_i nn kd f ho
        split at e
        · cases e
        · rename_i hnin
          split at e
          · rename_i emb1 obs1 cs1 l1 hr
            simp only [Option.some.injEq, Prod.mk.injEq] at e
            obtain ⟨rfl, rfl, rfl, rfl⟩ := e
            obtain ⟨ex, i1, i2, i3, i4, i5, i6⟩ := passCells_ok hr
            refine ⟨k :: ex, by rw [i1]; simp, by simp [i2], ?_, ?_, ?_, ?_, i6⟩
            · intro j id hj
              cases j with
              | zero => simp at hj; subst hj; exact ⟨_, rfl, fun _ _ => .inr (.inr ⟨nn, kd, f, ho, rfl⟩)⟩
              | succ j => simp at hj; obtain ⟨a, b, c⟩ := i3 j id hj; exact ⟨a, by simpa using b, c⟩
            · intro id hid
              rcases List.mem_cons.1 hid with rfl | hid
              · simpa using hnin
              · have := i4 id hid
                simp at this
                simpa using this.1
            · intro j j' id hj hj'
              have hk : ∀ j, ex[j]? ≠ some k := fun j hj => by
                have := i4 k (List.mem_of_getElem? hj)
                simp at this
              cases j with
              | zero => cases j' with
                | zero => rfl
                | succ j' => simp at hj hj'; subst hj; exact (hk j' hj').elim
              | succ j => cases j' with
                | zero => simp at hj hj'; subst hj'; exact (hk j hj).elim
                | succ j' => simp at hj hj'; rw [i5 j j' id hj hj']
            · refine .mref ?_ ho
              rw [i1, List.append_assoc, List.getElem?_append_right (Nat.le_refl _)]
              simp
          · cases e
      · cases e
    · split at e
      · rename_i emb1 obs1 cs1 l1 hr
        simp only [Option.some.injEq, Prod.mk.injEq] at e
        obtain ⟨rfl, rfl, rfl, rfl⟩ := e
        obtain ⟨ex, i1, i2, i3, i4, i5, i6⟩ := passCells_ok hr
        exact ⟨ex, i1, i2, i3, i4, i5, .val, i6⟩
      · cases e
    · split at e
      · rename_i hl
        split at e
        · rename_i emb1 obs1 cs1 l1 hr
          simp only [Option.some.injEq, Prod.mk.injEq] at e
          obtain ⟨rfl, rfl, rfl, rfl⟩ := e
          obtain ⟨ex, i1, i2, i3, i4, i5, i6⟩ := passCells_ok hr
          exact ⟨ex, i1, i2, i3, i4, i5, .bor (liveB_ok hl) (by simp), i6.imp fun a b h => h.mono (fun _ _ h => h) fun i hi => List.mem_cons_of_mem _ hi⟩
        · cases e
      · cases e
    · split at e
      · rename_i emb1 obs1 cs1 l1 hr
        simp only [Option.some.injEq, Prod.mk.injEq] at e
        obtain ⟨rfl, rfl, rfl, rfl⟩ := e
        obtain ⟨ex, i1, i2, i3, i4, i5, i6⟩ := passCells_ok hr
        exact ⟨ex, i1, i2, i3, i4, i5, .top, i6⟩
      · cases e
    · cases e

theorem passAgg_ok {s : St} : ∀ {ms : List (Option (Bool × Nat))} {cs cs' : List AC} {emb emb' : List (Option Nat)} {obs : List Ob} {l : List Nat}, passAgg s emb ms cs = some (emb', obs, cs', l) →
    ∃ ex : List (Option Nat), emb' = emb ++ ex ∧ obs.length = ex.length ∧ (∀ (j id : Nat), ex[j]? = some (some id) → ∃ own sz es, s.obj id = .arr own sz es ∧ obs[j]? = some (.arr own sz es)) ∧
      (∀ (j : Nat), ex[j]? = some none → ∃ own sz, obs[j]? = some (.arr own sz [])) ∧
      (∀ id, some id ∈ ex → some id ∉ emb) ∧ (∀ (j j' id : Nat), ex[j]? = some (some id) → ex[j']? = some (some id) → j = j') ∧ All2 (PAC s emb' l) cs cs'
  | [], [], cs', emb, emb', obs, l, e => by
    simp only [passAgg, Option.some.injEq, Prod.mk.injEq] at e
    obtain ⟨rfl, rfl, rfl, rfl⟩ := e
    exact ⟨[], by simp, rfl, by simp, by simp, by simp, by simp, trivial⟩
  | [], c :: cs, cs', emb, emb', obs, l, e => by simp [passAgg] at e
  | m :: ms, [], cs', emb, emb', obs, l, e => by simp [passAgg] at e
  | m :: ms, c :: cs, cs', emb, emb', obs, l, e => by
    simp only [passAgg] at e
    split at e
    · split at e
      · rename_i c1 l1 hl
        split at e
        · rename_i emb1 obs1 cs1 l2 hr
          simp only [Option.some.injEq, Prod.mk.injEq] at e
          obtain ⟨rfl, rfl, rfl, rfl⟩ := e
          obtain ⟨ex, i1, i2, i3, i4, i5, i6, i7⟩ := passAgg_ok hr
          exact ⟨ex, i1, i2, i3, i4, i5, i6, (lendAC_ok hl).mono (fun _ _ h => h) fun i hi => List.mem_append_left _ hi,
            i7.imp fun a b h => h.mono (fun _ _ h => h) fun i hi => List.mem_append_right _ hi⟩
        · cases e
      · cases e
    · rename_i o sz
      split at e
      · rename_i k
        split at e
        · rename_i o' sz' es ho
          split at e
          · rename_i hc
            obtain ⟨rfl, rfl, hnin⟩ := hc
            split at e
            · rename_i emb1 obs1 cs1 l1 hr
              simp only [Option.some.injEq, Prod.mk.injEq] at e
              obtain ⟨rfl, rfl, rfl, rfl⟩ := e
              obtain ⟨ex, i1, i2, i3, i4, i5, i6, i7⟩ := passAgg_ok hr
              refine ⟨some k :: ex, by rw [i1]; simp, by simp [i2], ?_, ?_, ?_, ?_, ?_, i7⟩
              · intro j id hj
                cases j with
                | zero => simp at hj; subst hj; exact ⟨_, _, _, ho, rfl⟩
                | succ j => simp at hj; obtain ⟨a, b, c, d, e⟩ := i3 j id hj; exact ⟨a, b, c, d, by simpa using e⟩
              · intro j hj
                cases j with
                | zero => simp at hj
                | succ j => simp at hj; simpa using i4 j hj
              · intro id hid
                rcases List.mem_cons.1 hid with h | hid
                · cases h; simpa using hnin
                · have := i5 id hid
                  simp at this
                  exact this.1
              · intro j j' id hj hj'
                have hk : ∀ j, ex[j]? ≠ some (some k) := fun j hj => by
                  have := i5 k (List.mem_of_getElem? hj)
                  simp at this
                cases j with
                | zero => cases j' with
                  | zero => rfl
                  | succ j' => simp at hj hj'; subst hj; exact (hk j' hj').elim
                | succ j => cases j' with
                  | zero => simp at hj hj'; subst hj'; exact (hk j hj).elim
                  | succ j' => simp at hj hj'; rw [i6 j j' id hj hj']
              · refine .ref ?_ ⟨_, _, _, ho⟩
                rw [i1, List.append_assoc, List.getElem?_append_right (Nat.le_refl _)]
                simp
            · cases e
          · cases e
        · cases e
      · split at e
        · rename_i emb1 obs1 cs1 l1 hr
          simp only [Option.some.injEq, Prod.mk.injEq] at e
          obtain ⟨rfl, rfl, rfl, rfl⟩ := e
          obtain ⟨ex, i1, i2, i3, i4, i5, i6, i7⟩ := passAgg_ok hr
          refine ⟨none :: ex, by rw [i1]; simp, by simp [i2], ?_, ?_, ?_, ?_, ?_, i7⟩
          · intro j id hj
            cases j with
            | zero => simp at hj
            | succ j => simp at hj; obtain ⟨a, b, c, d, e⟩ := i3 j id hj; exact ⟨a, b, c, d, by simpa using e⟩
          · intro j hj
            cases j with
            | zero => exact ⟨o, sz, rfl⟩
            | succ j => simp at hj; simpa using i4 j hj
          · intro id hid
            rcases List.mem_cons.1 hid with h | hid
            · cases h
            · have := i5 id hid
              simp at this
              exact this
          · intro j j' id hj hj'
            cases j with
            | zero => simp at hj
            | succ j => cases j' with
              | zero => simp at hj'
              | succ j' => simp at hj hj'; rw [i6 j j' id hj hj']
          · refine .own ?_
            rw [i1, List.append_assoc, List.getElem?_append_right (Nat.le_refl _)]
            simp
        · cases e
      · cases e

theorem get_right {α : Type} {l l' : List α} {j : Nat} {x : α} (h : (l ++ l')[j]? = some x) : (j < l.length ∧ l[j]? = some x) ∨ (l.length ≤ j ∧ l'[j - l.length]? = some x) := by
  by_cases hlt : j < l.length
  · rw [List.getElem?_append_left hlt] at h; exact .inl ⟨hlt, h⟩
  · rw [List.getElem?_append_right (Nat.le_of_not_lt hlt)] at h; exact .inr ⟨Nat.le_of_not_lt hlt, h⟩

theorem PassOK.app {s : St} {p : Pass} (h : PassOK s p) {xs : List (Option Nat)} {os : List Ob} {args : List SV} {l : List Nat} (hl : xs.length = os.length)
    (h1 : ∀ (j id : Nat), xs[j]? = some (some id) → ∃ o, os[j]? = some o ∧ PObj s (p.emb ++ xs) (p.lent ++ l) id o ∧ some id ∉ p.emb)
    (h2 : ∀ (j : Nat), xs[j]? = some none → ∃ own sz, os[j]? = some (.arr own sz []))
    (h3 : ∀ (j j' id : Nat), xs[j]? = some (some id) → xs[j']? = some (some id) → j = j') :
    PassOK s { emb := p.emb ++ xs, objs := p.objs ++ os, args := args, lent := p.lent ++ l } where
  len := by simp [h.len, hl]
  som j id hj := by
    rcases get_right hj with ⟨_, hj⟩ | ⟨hge, hj⟩
    · obtain ⟨o', k1, k2⟩ := h.som j id hj
      exact ⟨o', get_append k1, k2.mono (fun _ _ h => get_append h) fun _ h => List.mem_append_left _ h⟩
    · obtain ⟨o', k1, k2, _⟩ := h1 _ id hj
      refine ⟨o', ?_, k2⟩
      show (p.objs ++ os)[j]? = _
      rw [List.getElem?_append_right (by rw [← h.len]; exact hge), ← h.len]; exact k1
  non j hj := by
    rcases get_right hj with ⟨_, hj⟩ | ⟨hge, hj⟩
    · obtain ⟨own, sz, k1⟩ := h.non j hj
      exact ⟨own, sz, get_append k1⟩
    · obtain ⟨own, sz, k1⟩ := h2 _ hj
      refine ⟨own, sz, ?_⟩
      show (p.objs ++ os)[j]? = _
      rw [List.getElem?_append_right (by rw [← h.len]; exact hge), ← h.len]; exact k1
  inj j j' id hj hj' := by
    rcases get_right hj with ⟨a1, a2⟩ | ⟨a1, a2⟩ <;> rcases get_right hj' with ⟨b1, b2⟩ | ⟨b1, b2⟩
    · exact h.inj j j' id a2 b2
    · obtain ⟨_, _, _, hn⟩ := h1 _ id b2
      exact (hn (List.mem_of_getElem? a2)).elim
    · obtain ⟨_, _, _, hn⟩ := h1 _ id a2
      exact (hn (List.mem_of_getElem? b2)).elim
    · have := h3 _ _ id a2 b2
      omega

structure Step (s : St) (p p' : Pass) (x : SV) : Prop where
  ok : PassOK s p'
  emb : ∀ (j : Nat) y, p.emb[j]? = some y → p'.emb[j]? = some y
  lent : ∀ i, i ∈ p.lent → i ∈ p'.lent
  arg : ∃ y, p'.args = p.args ++ [y] ∧ PSV s p'.emb p'.lent x y

theorem Pass.add_ok {s : St} {p p' : Pass} (h : PassOK s p) {m : Mode} {x : SV} (e : p.add s m x = some p') : Step s p p' x := by
  have rdcase : ∀ {l : List Nat} {y : SV}, PSV s p.emb l x y → Step s p { p with args := p.args ++ [y], lent := p.lent ++ l } x := by
    intro l y hy
    have := h.app (xs := []) (os := []) (args := p.args ++ [y]) (l := l) rfl (by simp) (by simp) (by simp)
    simp only [List.append_nil] at this
    exact ⟨this, fun _ _ h => h, fun i hi => List.mem_append_left _ hi, y, rfl, hy.mono (fun _ _ h => h) fun i hi => List.mem_append_right _ hi⟩
  unfold Pass.add at e
  split at e
  · split at e
    · rename_i c
      split at e
      · rename_i c' l hl
        simp only [Option.some.injEq] at e; subst e
        obtain ⟨h1, h2⟩ := lendACs_ok (emb := p.emb) hl
        exact rdcase (y := .one c') ⟨h2 c' (by simp), h1.1⟩
      · cases e
    · rename_i cs
      split at e
      · rename_i cs' l hl
        simp only [Option.some.injEq] at e; subst e
        exact rdcase (y := .agg cs') (lendACs_ok (emb := p.emb) hl).1
      · cases e
  · rename_i o sz
    split at e
    · rename_i id
      split at e
      · rename_i o' sz' es hob
        split at e
        · rename_i hc
          obtain ⟨rfl, rfl, hn⟩ := hc
          simp only [Option.some.injEq] at e; subst e
          have := h.app (xs := [some id]) (os := [.arr o' sz' es]) (args := p.args ++ [.one (.ref p.emb.length)]) (l := []) rfl ?_ ?_ ?_
          · simp only [List.append_nil] at this
            refine ⟨this, fun _ _ h => get_append h, fun i hi => hi, _, rfl, by simp, .ref ?_ ⟨_, _, _, hob⟩⟩
            show (p.emb ++ [some id])[p.emb.length]? = _
            simp
          · intro j i hj
            cases j with
            | zero => simp at hj; subst hj; exact ⟨_, rfl, .inl ⟨_, _, _, hob, rfl⟩, by simpa using hn⟩
            | succ j => simp at hj
          · intro j hj; cases j <;> simp at hj
          · intro j j' i hj hj'
            cases j <;> cases j' <;> simp at hj hj' ⊢
        · cases e
      · cases e
    · simp only [Option.some.injEq] at e; subst e
      have := h.app (xs := [none]) (os := [.arr o sz []]) (args := p.args ++ [.one (.ref p.emb.length)]) (l := []) rfl ?_ ?_ ?_
      · simp only [List.append_nil] at this
        refine ⟨this, fun _ _ h => get_append h, fun i hi => hi, _, rfl, by simp, .own ?_⟩
        show (p.emb ++ [none])[p.emb.length]? = _
        simp
      · intro j i hj; cases j <;> simp at hj
      · intro j hj
        cases j with
        | zero => exact ⟨o, sz, rfl⟩
        | succ j => simp at hj
      · intro j j' i hj hj'; cases j <;> simp at hj
    · cases e
  · split at e
    · rename_i id
      split at e
      · rename_i cs hob
        split at e
        · cases e
        · rename_i hn
          split at e
          · rename_i emb' obs cs' l hp
            simp only [Option.some.injEq] at e; subst e
            obtain ⟨ex, i1, i2, i3, i4, i5, i6⟩ := passCells_ok hp
            have he : emb' = p.emb ++ (some id :: ex.map some) := by rw [i1]; simp
            have := h.app (xs := some id :: ex.map some) (os := .box cs' :: obs) (args := p.args ++ [.one (.ptr p.emb.length 0)]) (l := l) (by simp [i2]) ?_ ?_ ?_
            · rw [← he] at this
              refine ⟨this, fun _ _ h => by show emb'[_]? = _; rw [he]; exact get_append h, fun i hi => List.mem_append_left _ hi, _, rfl, by simp, .ptr ?_ hob⟩
              show emb'[p.emb.length]? = _
              rw [he]; simp
            · intro j i hj
              cases j with
              | zero =>
                simp at hj; subst hj
                exact ⟨_, rfl, .inr (.inl ⟨cs, cs', hob, rfl, by rw [← he]; exact i6.imp fun a b h => h.mono (fun _ _ h => h) fun i hi => List.mem_append_right _ hi⟩), by simpa using hn⟩
              | succ j =>
                simp only [List.getElem?_cons_succ, List.getElem?_map, Option.map_eq_some_iff, Option.some.injEq] at hj
                obtain ⟨k, hk, rfl⟩ := hj
                obtain ⟨o, k1, k2⟩ := i3 j k hk
                refine ⟨_, k1, k2 _ _, ?_⟩
                have := i4 k (List.mem_of_getElem? hk)
                simp at this
                exact this.1
            · intro j hj
              cases j with
              | zero => simp at hj
              | succ j => simp at hj
            · intro j j' i hj hj'
              have hne : ∀ j : Nat, (ex.map some)[j]? ≠ some (some id) := fun j hj => by
                rw [List.getElem?_map, Option.map_eq_some_iff] at hj
                obtain ⟨k, hk, hkk⟩ := hj
                simp only [Option.some.injEq] at hkk
                subst hkk
                have := i4 k (List.mem_of_getElem? hk)
                simp at this
              cases j with
              | zero => cases j' with
                | zero => rfl
                | succ j' => simp only [List.getElem?_cons_zero, Option.some.injEq, List.getElem?_cons_succ] at hj hj'; subst hj; exact (hne j' hj').elim
              | succ j => cases j' with
                | zero => simp only [List.getElem?_cons_zero, Option.some.injEq, List.getElem?_cons_succ] at hj hj'; subst hj'; exact (hne j hj).elim
                | succ j' =>
                  simp only [List.getElem?_cons_succ, List.getElem?_map, Option.map_eq_some_iff, Option.some.injEq] at hj hj'
                  obtain ⟨k, hk, rfl⟩ := hj
                  obtain ⟨k', hk', rfl⟩ := hj'
                  rw [i5 j j' _ hk hk']
          · cases e
      · cases e
    · cases e
  · split at e
    · rename_i id
      split at e
      · rename_i nn kd f hob
        split at e
        · rename_i hn
          simp only [Option.some.injEq] at e; subst e
          have := h.app (xs := [some id]) (os := [.map nn kd f]) (args := p.args ++ [.one (.mref p.emb.length)]) (l := []) rfl ?_ ?_ ?_
          · simp only [List.append_nil] at this
            refine ⟨this, fun _ _ h => get_append h, fun i hi => hi, _, rfl, by simp, .mref ?_ hob⟩
            show (p.emb ++ [some id])[p.emb.length]? = _
            simp
          · intro j i hj
            cases j with
            | zero => simp at hj; subst hj; exact ⟨_, rfl, .inr (.inr ⟨_, _, _, hob, rfl⟩), by simpa using hn⟩
            | succ j => simp at hj
          · intro j hj; cases j <;> simp at hj
          · intro j j' i hj hj'
            cases j <;> cases j' <;> simp at hj hj' ⊢
        · cases e
      · cases e
    · cases e
  · split at e
    · split at e
      · rename_i emb' obs cs' l hp
        simp only [Option.some.injEq] at e; subst e
        obtain ⟨ex, i1, i2, i3, i4, i5, i6, i7⟩ := passAgg_ok hp
        have := h.app (xs := ex) (os := obs) (args := p.args ++ [.agg cs']) (l := l) i2.symm ?_ i4 i6
        · rw [← i1] at this
          exact ⟨this, fun _ _ h => by show emb'[_]? = _; rw [i1]; exact get_append h, fun i hi => List.mem_append_left _ hi, _, rfl,
            i7.imp fun a b h => h.mono (fun _ _ h => h) fun i hi => List.mem_append_right _ hi⟩
        · intro j i hj
          obtain ⟨own, sz, es, k1, k2⟩ := i3 j i hj
          exact ⟨_, k2, .inl ⟨_, _, _, k1, rfl⟩, i5 i (List.mem_of_getElem? hj)⟩
      · cases e
    · cases e

theorem PassOK.nil (s : St) : PassOK s {} := ⟨rfl, by simp, by simp, by simp⟩

theorem passAll_ok {s : St} : ∀ {ms : List Mode} {xs : List AV} {p p' : Pass} {ys : List SV}, PassOK s p → passAll s p ms xs = some p' → All2 (PSV s p.emb p.lent) ys p.args →
    PassOK s p' ∧ ∃ zs : List SV, xs = zs.map .sv ∧ All2 (PSV s p'.emb p'.lent) (ys ++ zs) p'.args
  | [], [], p, p', ys, h, e, ha => by
    simp only [passAll, Option.some.injEq] at e; subst e
    exact ⟨h, [], rfl, by simpa using ha⟩
  | m :: ms, .sv x :: xs, p, p', ys, h, e, ha => by
    simp only [passAll] at e
    split at e
    · rename_i p1 h1
      have st := Pass.add_ok h h1
      obtain ⟨y, hy1, hy2⟩ := st.arg
      obtain ⟨k1, zs, k2, k3⟩ := passAll_ok (ys := ys ++ [x]) st.ok e (by
        rw [hy1]
        exact (ha.imp fun a b hab => hab.mono st.emb st.lent).append ⟨hy2, trivial⟩)
      exact ⟨k1, x :: zs, by rw [k2]; rfl, by simpa using k3⟩
    · cases e
  | m :: ms, .tup l :: xs, p, p', ys, h, e, ha => by simp [passAll] at e
  | [], x :: xs, p, p', ys, h, e, ha => by simp [passAll] at e
  | m :: ms, [], p, p', ys, h, e, ha => by simp [passAll] at e

end Go.Proofs.Ytamcedjjlokfhaa.Ab
