/- The abstract machine, part 17: the rule of a call. No condition. -/
import Derived.Test.YtamcedjjlokfhaaAb16
namespace Go.Proofs.Ytamcedjjlokfhaa.Ab
open Go
set_option linter.unusedVariables false

def emap (emb : List (Option Nat)) (j : Nat) : Option Nat := match emb[j]? with | some (some id) => some id | _ => none

theorem emap_some {emb : List (Option Nat)} {j id : Nat} : emap emb j = some id ↔ emb[j]? = some (some id) := by
  unfold emap; split
  · rename_i h; rw [h]; simp
  · rename_i h; constructor
    · intro e; cases e
    · intro e; exact (h id e).elim

def callI (ι : Interp) (emb : List (Option Nat)) (R : Nat → Prop) : Interp where
  G := R
  blk j := match emap emb j with | some id => ι.blk id | none => 0
  sl j := match emap emb j with | some id => ι.sl id | none => .slice none 0 0
  fp j b := match emap emb j with | some id => ι.fp id b | none => False

section
variable {P : Program} {E : Ent} {s : St} {ι : Interp} {a : Act} {w : World} {p : Pass} {R : Nat → Prop}

theorem callI_some {j id : Nat} {emb : List (Option Nat)} (h : emb[j]? = some (some id)) : (callI ι emb R).blk j = ι.blk id ∧ (callI ι emb R).sl j = ι.sl id ∧ (callI ι emb R).fp j = ι.fp id := by
  have := emap_some.2 h
  refine ⟨by simp [callI, this], by simp [callI, this], ?_⟩
  funext b; simp [callI, this]

theorem callI_none {j : Nat} {emb : List (Option Nat)} (h : emap emb j = none) : (callI ι emb R).sl j = .slice none 0 0 ∧ ∀ b, ¬ (callI ι emb R).fp j b := by
  exact ⟨by simp [callI, h], fun b => by simp [callI, h]⟩

theorem callI_fp {j b : Nat} {emb : List (Option Nat)} (h : (callI ι emb R).fp j b) : ∃ id, emb[j]? = some (some id) ∧ ι.fp id b := by
  cases e : emap emb j with
  | none => exact ((callI_none (ι := ι) (R := R) e).2 b h).elim
  | some id => exact ⟨id, emap_some.1 e, by simpa [callI, e] using h⟩

theorem PObj.notFree {emb : List (Option Nat)} {lent : List Nat} {id : Nat} {o : Ob} (h : PObj s emb lent id o) : o ≠ .free := by
  rcases h with ⟨_, _, _, _, rfl⟩ | ⟨_, _, _, rfl, _⟩ | ⟨_, _, _, _, rfl⟩ <;> simp

theorem obOf_get {objs : List Ob} {j : Nat} {o : Ob} (h : objs[j]? = some o) : obOf objs j = o := by simp [obOf, h]

theorem pac_rel (h : Rel E s ι a w) (hp : PassOK s p) (hGR : ∀ b, ι.G b → R b) (hlR : ∀ i ∈ p.lent, ∀ b, ι.fp i b → R b) {c c' : AC} (hc : PAC s p.emb p.lent c c') {v : Value} (r : ACRel w ι s.obj c v) :
    ACRel w (callI ι p.emb R) (obOf p.objs) c' v := by
  have hrd : ∀ i ∈ p.lent, ∀ b, rdSet ι (some i) b → R b := fun i hi b hb => hb.elim (hGR b) (hlR i hi b)
  cases hc with
  | top => trivial
  | val => exact Rd.mono (fun _ _ => rfl) hGR r
  | nil => obtain ⟨rfl, _⟩ := Rd.lit_inv (show Rd w ι.G v _ from r); exact Rd.nil
  | bor hl hi => exact Rd.mono (fun _ _ => rfl) (hrd _ hi) (r.2 hl)
  | lend ho hi =>
    rename_i id own sz es
    have hob := h.objs id
    rw [ho] at hob
    rw [r.2 _ _ _ ho]
    exact Rd.mono (fun _ _ => rfl) (hrd _ hi) (ArrRel.rd hob)
  | ref he hl =>
    rename_i id j
    obtain ⟨own, sz, es, ho⟩ := hl
    obtain ⟨o, h1, h2⟩ := hp.som j id he
    refine ⟨?_, fun _ _ _ _ => ?_⟩
    · unfold notFree; rw [obOf_get h1]
      have := h2.notFree
      cases o <;> simp_all
    · rw [(callI_some he).2.1]; exact r.2 _ _ _ ho
  | own he =>
    rename_i j
    obtain ⟨rfl, _⟩ := Rd.lit_inv (show Rd w ι.G v _ from r)
    obtain ⟨own, sz, h1⟩ := hp.non j he
    have hem : emap p.emb j = none := by unfold emap; rw [he]
    refine ⟨?_, fun _ _ _ _ => ?_⟩
    · unfold notFree; rw [obOf_get h1]; trivial
    · rw [(callI_none hem).1]
  | ptr he hb =>
    rename_i id j cs
    obtain ⟨o, h1, h2⟩ := hp.som j id he
    refine ⟨?_, fun _ _ => ?_⟩
    · unfold notFree; rw [obOf_get h1]
      have := h2.notFree
      cases o <;> simp_all
    · rw [(callI_some he).1]; exact r.2 _ hb
  | mref he hb =>
    rename_i id j nn k f
    obtain ⟨o, h1, h2⟩ := hp.som j id he
    refine ⟨?_, fun nn' k' f' e' => ?_⟩
    · unfold notFree; rw [obOf_get h1]
      have := h2.notFree
      cases o <;> simp_all
    · rw [(callI_some he).1]
      rw [obOf_get h1] at e'
      subst e'
      rcases h2 with ⟨_, _, _, _, hh⟩ | ⟨_, _, _, hh, _⟩ | ⟨_, _, _, hh, hk⟩
      · cases hh
      · cases hh
      · cases hk; exact r.2 _ _ _ hh

theorem psv_rel (h : Rel E s ι a w) (hp : PassOK s p) (hGR : ∀ b, ι.G b → R b) (hlR : ∀ i ∈ p.lent, ∀ b, ι.fp i b → R b) {x y : SV} (hc : PSV s p.emb p.lent x y) {v : Value} (r : SVRel w ι s.obj x v) :
    SVRel w (callI ι p.emb R) (obOf p.objs) y v := by
  cases x with
  | one c => cases y with
    | one c' =>
      refine ⟨pac_rel h hp hGR hlR hc.2 r.1, fun _ => r.2 fun e => ?_⟩
      subst e
      cases hc.2
      exact hc.1 rfl
    | agg => exact hc.elim
  | agg cs => cases y with
    | one => exact hc.elim
    | agg cs' =>
      obtain ⟨arr, e, ha⟩ := r
      refine ⟨arr, e, All2.of_get ?_ fun k c' u hc' hu => ?_⟩
      · rw [← All2.length hc, ha.length]
      · have hl : k < cs.length := by rw [All2.length hc]; exact (List.getElem?_eq_some_iff.1 hc').1
        have := ha.get (List.getElem?_eq_getElem hl) hu
        exact ⟨pac_rel h hp hGR hlR (All2.get hc (List.getElem?_eq_getElem hl) hc') this.1, this.2⟩

theorem pre_of_pass (h : Rel E s ι a w) (hp : PassOK s p) (hGR : ∀ b, ι.G b → R b) (hlR : ∀ i ∈ p.lent, ∀ b, ι.fp i b → R b) (hRg : ∀ b, R b → ι.G b ∨ ∃ id, some id ∉ p.emb ∧ ι.fp id b)
    {xs : List SV} {vals : Array Value} (ha : All2 (PSV s p.emb p.lent) xs p.args) (hv : All2 (SVRel w ι s.obj) xs vals.toList) : PreRel w (callI ι p.emb R) p.objs p.args vals where
  obj j := by
    cases e : emap p.emb j with
    | some id =>
      have he := emap_some.1 e
      obtain ⟨o, h1, h2⟩ := hp.som j id he
      obtain ⟨c1, c2, c3⟩ := callI_some (ι := ι) (R := R) he
      rw [obOf_get h1]
      have hob := h.objs id
      rcases h2 with ⟨own, sz, es, k1, rfl⟩ | ⟨cs, cs', k1, rfl, k2⟩ | ⟨nn, kd, f, k1, rfl⟩
      · rw [k1] at hob
        show ArrRel w (Nest w R own) sz ((callI ι p.emb R).fp j) ((callI ι p.emb R).sl j) es
        rw [c2, c3]
        exact ArrRel.mono hob (fun b hb => ⟨hGR b hb, rfl⟩) fun _ _ => rfl
      · rw [k1] at hob
        obtain ⟨r1, arr, ty, r2, r3⟩ := hob
        refine ⟨by rw [c1, c3]; exact r1, arr, ty, by rw [c1]; exact r2, All2.of_get ?_ fun k c' u hc' hu => ?_⟩
        · rw [← k2.length, r3.length]
        · have hl : k < cs.length := by rw [k2.length]; exact (List.getElem?_eq_some_iff.1 hc').1
          have := r3.get (List.getElem?_eq_getElem hl) hu
          exact ⟨pac_rel h hp hGR hlR (k2.get (List.getElem?_eq_getElem hl) hc') this.1, this.2⟩
      · rw [k1] at hob
        cases nn with
        | true => exact ⟨fun b hb => hob.1 b (by rw [c3] at hb; exact hb), hob.2⟩
        | false =>
          show MapRel w kd ((callI ι p.emb R).fp j) ((callI ι p.emb R).blk j) f
          rw [c1, c3]
          exact hob
    | none =>
      obtain ⟨c1, c2⟩ := callI_none (ι := ι) (R := R) e
      cases hj : p.emb[j]? with
      | none =>
        have : p.objs[j]? = none := by rw [List.getElem?_eq_none_iff] at hj ⊢; rw [← hp.len]; exact hj
        have : obOf p.objs j = .free := by simp [obOf, this]
        rw [this]; exact c2
      | some y =>
        cases y with
        | some id => rw [emap_some.2 hj] at e; cases e
        | none =>
          obtain ⟨own, sz, h1⟩ := hp.non j hj
          rw [obOf_get h1]
          show ArrRel w (Nest w R own) sz ((callI ι p.emb R).fp j) ((callI ι p.emb R).sl j) []
          rw [c1]
          exact ⟨0, [], fun _ _ => False, World.ownsRow_nil w 0 0 sz, by simp, by simp [Value.ownBlock], by simp, by simp, by simp, by simp, fun _ => ⟨none, rfl⟩⟩
  disj i j b hij hi hj := by
    obtain ⟨id1, e1, f1⟩ := callI_fp hi
    obtain ⟨id2, e2, f2⟩ := callI_fp hj
    exact h.disj id1 id2 b (fun e => hij (hp.inj i j id1 e1 (e ▸ e2))) f1 f2
  gfp i b hi hg := by
    obtain ⟨id1, e1, f1⟩ := callI_fp hi
    rcases hRg b hg with hg | ⟨id2, hn, f2⟩
    · exact h.gfp id1 b f1 hg
    · exact h.disj id1 id2 b (fun e => hn (e ▸ List.mem_of_getElem? e1)) f1 f2
  lt i b hi := by
    obtain ⟨id1, e1, f1⟩ := callI_fp hi
    exact h.lt id1 b f1
  glt b hg := by
    rcases hRg b hg with hg | ⟨id2, hn, f2⟩
    · exact h.glt b hg
    · exact h.lt id2 b f2
  arg := by
    refine All2.of_get ?_ fun k y u hy hu => ?_
    · rw [← ha.length, hv.length]
    · have hl : k < xs.length := by rw [ha.length]; exact (List.getElem?_eq_some_iff.1 hy).1
      exact psv_rel h hp hGR hlR (ha.get (List.getElem?_eq_getElem hl) hy) (hv.get (List.getElem?_eq_getElem hl) hu)

/-! ### behind the call -/
def renOf (emb : List (Option Nat)) (n j : Nat) : Nat := match emap emb j with | some id => id | none => n + j

def backUpd (emb : List (Option Nat)) (n : Nat) (objs1 : List Ob) : List (Nat × Ob) :=
  (List.range objs1.length).map fun j => (renOf emb n j, (obOf objs1 j).ren (renOf emb n))

theorem updObs_range (o : Nat → Ob) (g : Nat → Nat) : ∀ (js : List Nat) (s : St), (∀ j ∈ js, g j < s.objs.length) → (∀ j ∈ js, ∀ j' ∈ js, g j = g j' → j = j') →
    (∀ i, (∀ j ∈ js, g j ≠ i) → (s.updObs (js.map fun j => (g j, o j))).obj i = s.obj i) ∧ ∀ j ∈ js, (s.updObs (js.map fun j => (g j, o j))).obj (g j) = o j
  | [], s, _, _ => ⟨fun _ _ => rfl, by simp⟩
  | j :: js, s, hlt, hinj => by
    obtain ⟨h1, h2⟩ := updObs_range o g js (s.setOb (g j) (o j)) (fun k hk => by rw [setOb_length]; exact hlt k (List.mem_cons_of_mem _ hk)) fun k hk k' hk' => hinj k (List.mem_cons_of_mem _ hk) k' (List.mem_cons_of_mem _ hk')
    have hgj := hlt j List.mem_cons_self
    simp only [List.map_cons, St.updObs]
    refine ⟨fun i hi => ?_, fun k hk => ?_⟩
    · rw [h1 i fun k hk => hi k (List.mem_cons_of_mem _ hk), obj_setOb hgj, if_neg (Ne.symm (hi j List.mem_cons_self))]
    · rcases List.mem_cons.1 hk with rfl | hk
      · by_cases hin : ∃ k' ∈ js, g k' = g k
        · obtain ⟨k', hk', e⟩ := hin
          have := hinj k' (List.mem_cons_of_mem _ hk') k List.mem_cons_self e
          subst this
          exact h2 k' hk'
        · rw [h1 (g k) fun k' hk' e => hin ⟨k', hk', e⟩, obj_setOb hgj, if_pos rfl]
      · exact h2 k hk

def somes (emb : List (Option Nat)) : List Nat := emb.filterMap id

theorem mem_somes {emb : List (Option Nat)} {i : Nat} : i ∈ somes emb ↔ some i ∈ emb := by simp [somes]

end
end Go.Proofs.Ytamcedjjlokfhaa.Ab
