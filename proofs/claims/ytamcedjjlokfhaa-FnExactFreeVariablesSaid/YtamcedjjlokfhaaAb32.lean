/- The abstract machine, part 32: a region that draws its order, whatever it draws: the proof. No condition. -/
import Derived.Test.YtamcedjjlokfhaaAb31
namespace Go.Proofs.Ytamcedjjlokfhaa.Ab
open Go
set_option linter.unusedVariables false

def GoodE (P : Program) (ops : Array Oper) (ms : List Nat) (bls : List (Option Nat × List Nat)) (s0 : St) (ds : List Eff) (d : Eff) : Prop :=
  ∃ o, ops[d.i]? = some o ∧ d.dst = o.dst ∧
    ((wantedA ops (mkS ops.size ms bls s0 ds d.i) o = some false ∧ d.val = .tup [] ∧ d.r = {} ∧ d.it = []) ∨
     (wantedA ops (mkS ops.size ms bls s0 ds d.i) o = some true ∧ d.k = slots o ∧ d.val = d.r.val ∧ (∃ q q', aop P (mkS ops.size ms bls s0 ds d.i) o d.n q = some (d.r, d.it, q')) ∧ oblK d.it True))

structure DPlan (P : Program) (ops : Array Oper) (ms : List Nat) (bls : List (Option Nat × List Nat)) (s0 : St) (ds : List Eff) : Prop where
  hms : ms = masks ops ops.size
  good : ∀ d ∈ ds, GoodE P ops ms bls s0 ds d
  idx : ds.map (·.i) = List.range ops.size
  pre : ∀ i, ∀ p ∈ opPreds ops i, p < i
  bl : ∀ d ∈ ds, (bls.getD d.i (none, [])).1 = d.dst ∧ (∀ p ∈ d.obs, (bls.getD d.i (none, [])).2.elem p.1 = true) ∧ ∀ x ∈ d.r.inv, (bls.getD d.i (none, [])).2.elem x = true
  room : ∀ d ∈ ds, ∀ x, d.n ≤ x → x < d.n + d.k → s0.obj x = .free ∧ x < s0.objs.length
  far : ∀ d ∈ ds, ∀ e ∈ ds, d.i ≠ e.i → (ms.getD e.i 0).testBit d.i = false → ∀ p ∈ e.obs, p.1 < d.n ∨ d.n + d.k ≤ p.1
  ap : ∀ d ∈ ds, ∀ e ∈ ds, unordB ms d.i e.i = true → d.apart e = true

section
variable {P : Program} {E : Ent} {ops : Array Oper} {ms : List Nat} {bls : List (Option Nat × List Nat)} {s0 : St} {ds : List Eff}

def Lst (listed : Array Bool) (j : Nat) : Bool := listed.getD j false

theorem opPreds_mem {i : Nat} {o : Oper} (ho : ops[i]? = some o) {p : Nat} : p ∈ opPreds ops i ↔ ∃ e ∈ o.after, Region.binds .any e = true ∧ e.on = p := by
  simp only [opPreds, ho, List.mem_map, List.mem_filter, Array.mem_toList_iff]
  constructor
  · rintro ⟨e, ⟨h1, h2⟩, h3⟩; exact ⟨e, h1, h2, h3⟩
  · rintro ⟨e, h1, h2, h3⟩; exact ⟨e, ⟨h1, h2⟩, h3⟩

theorem ready_spec {listed : Array Bool} {i : Nat} (h : i ∈ Region.ready .any ops listed) (hsz : listed.size = ops.size) : Lst listed i = false ∧ i < ops.size ∧ ∀ p ∈ opPreds ops i, Lst listed p = true := by
  obtain ⟨h0, o, ho, hall⟩ := mem_ready.1 h
  have hlt : i < ops.size := (Array.getElem?_eq_some_iff.1 ho).1
  refine ⟨?_, hlt, fun p hp => ?_⟩
  · simp only [Lst, Array.getD_eq_getD_getElem?] at h0 ⊢
    rw [Array.getElem?_eq_getElem (by omega)] at h0 ⊢
    exact h0
  · obtain ⟨e, h1, h2, rfl⟩ := (opPreds_mem ho).1 hp
    exact hall e h1 h2

theorem ready_nil {listed : Array Bool} (h : Region.ready .any ops listed = []) (hsz : listed.size = ops.size) (hp : ∀ i, ∀ p ∈ opPreds ops i, p < i) : ∀ n j, j < n → j < ops.size → Lst listed j = true
  | 0, j, hj, _ => by omega
  | n + 1, j, hj, hjs => by
    cases hl : Lst listed j with
    | true => rfl
    | false =>
      exfalso
      have : j ∈ Region.ready .any ops listed := by
        refine mem_ready.2 ⟨?_, ops[j], Array.getElem?_eq_getElem hjs, fun e he hb => ?_⟩
        · simp only [Lst, Array.getD_eq_getD_getElem?] at hl ⊢
          rw [Array.getElem?_eq_getElem (by omega)] at hl ⊢
          exact hl
        · have hm : e.on ∈ opPreds ops j := (opPreds_mem (Array.getElem?_eq_getElem hjs)).2 ⟨e, he, hb, rfl⟩
          have := hp j _ hm
          exact ready_nil h hsz hp n e.on (by omega) (by omega)
      rw [h] at this; cases this

theorem Lst_set {listed : Array Bool} {i : Nat} (hi : i < listed.size) (j : Nat) : Lst (listed.setIfInBounds i true) j = (Nat.beq j i || Lst listed j) := by
  simp only [Lst, Array.getD_eq_getD_getElem?, Array.getElem?_setIfInBounds]
  by_cases h : i = j
  · subst h; simp [hi]
  · have : Nat.beq j i = false := by rw [← Bool.not_eq_true]; exact fun e => h (Nat.eq_of_beq_eq_true e).symm
    simp [h, this]

theorem countP_lt {p q : Nat → Bool} {i : Nat} : ∀ {l : List Nat}, i ∈ l → p i = true → q i = false → (∀ j, q j = true → p j = true) → l.countP q < l.countP p
  | x :: l, hm, hp, hq, hle => by
    have hmono : l.countP q ≤ l.countP p := List.countP_mono_left fun j _ h => hle j h
    rcases List.mem_cons.1 hm with rfl | hm
    · simp only [List.countP_cons, hp, hq]; simp; omega
    · have := countP_lt hm hp hq hle
      simp only [List.countP_cons]
      by_cases hx : q x = true
      · simp [hx, hle x hx]; omega
      · have : (if q x = true then 1 else 0) = 0 := by simp [hx]
        rw [this]; split <;> omega

theorem DPlan.find (pl : DPlan P ops ms bls s0 ds) {i : Nat} (hi : i < ops.size) : ∃ d ∈ ds, d.i = i := by
  have : i ∈ ds.map (·.i) := by rw [pl.idx]; exact List.mem_range.2 hi
  simpa using this

theorem DPlan.lt (pl : DPlan P ops ms bls s0 ds) {d : Eff} (hd : d ∈ ds) : d.i < ops.size := by
  have : d.i ∈ ds.map (·.i) := List.mem_map_of_mem hd
  rw [pl.idx] at this
  simpa using this

theorem DPlan.sorted (pl : DPlan P ops ms bls s0 ds) : ds.Pairwise fun x y => x.i < y.i ∧ x ∈ ds ∧ y ∈ ds := by
  have h : (ds.map (·.i)).Pairwise (· < ·) := by rw [pl.idx]; exact List.pairwise_lt_range
  have h2 : ds.Pairwise fun x y => x.i < y.i := List.pairwise_map.1 h
  exact (List.Pairwise.and_mem.1 h2).imp fun ⟨a, b, c⟩ => ⟨c, a, b⟩

theorem DPlan.mkget (pl : DPlan P ops ms bls s0 ds) {i : Nat} (hi : i < ops.size) : ms.getD i 0 = Ab.mk ops i := by rw [pl.hms]; exact masks_get ops _ _ hi

theorem unordB_iff {i j : Nat} : unordB ms i j = true ↔ i ≠ j ∧ (ms.getD i 0).testBit j = false ∧ (ms.getD j 0).testBit i = false := by
  simp only [unordB, Bool.and_eq_true, Bool.not_eq_true', and_assoc]
  constructor
  · rintro ⟨h1, h2⟩; exact ⟨Nat.ne_of_beq_eq_false h1, h2⟩
  · rintro ⟨h1, h2⟩; exact ⟨by rw [← Bool.not_eq_true]; exact fun e => h1 (Nat.eq_of_beq_eq_true e), h2⟩

/-- one operation that may come up -/
theorem draw_step (pl : DPlan P ops ms bls s0 ds) {Q : Exit → Act → World → Prop} {listed : Array Bool} {ι : Interp} {a : Act} {w : World} {i : Nat} (hr : i ∈ Region.ready .any ops listed) (hsz : listed.size = ops.size)
    (hcl : ∀ j, Lst listed j = true → ∀ p ∈ opPreds ops j, Lst listed p = true) (h : Rel E (effs (Lst listed) s0 ds) ι a w) {K : Act → World → Prop}
    (hK : ∀ ι' a' w', Rel E (effs (Lst (listed.setIfInBounds i true)) s0 ds) ι' a' w' → (∀ d ∈ ds, d.i = i → asmT d.it) → K a' w') : wpOp P ops Q i K a w := by
  obtain ⟨hni, hi, hpre⟩ := ready_spec hr hsz
  obtain ⟨d, hd, hdi⟩ := pl.find hi
  have huniq : ∀ e ∈ ds, e.i = i → e = d := by
    intro e he hei
    have hs := pl.sorted
    by_cases hne : e = d
    · exact hne
    · exfalso
      have : ∀ (l : List Eff), l.Pairwise (fun x y => x.i < y.i ∧ x ∈ ds ∧ y ∈ ds) → e ∈ l → d ∈ l → e ≠ d → e.i ≠ d.i := by
        intro l hl
        induction hl with
        | nil => intro h; cases h
        | cons h1 _ ih =>
          intro h2 h3 h4
          rcases List.mem_cons.1 h2 with k2 | k2 <;> rcases List.mem_cons.1 h3 with k3 | k3
          · exact absurd (k2.trans k3.symm) h4
          · have := (h1 _ k3).1; rw [k2]; omega
          · have := (h1 _ k2).1; rw [k3]; omega
          · exact ih k2 k3 h4
      exact this ds hs he hd hne (by rw [hei, hdi])
  have hcl' : ∀ j, (Lst listed j = true) → ∀ p ∈ opPreds ops j, Lst listed p = true := hcl
  have hmi : ∀ x, (mk ops i).testBit x = true → Lst listed x = true := fun x hx => mk_closed (L := fun j => Lst listed j = true) hcl' (i + 1) i x (by omega) hpre hx
  have hmj : ∀ j x, Lst listed j = true → (mk ops j).testBit x = true → Lst listed x = true := fun j x hj hx => mk_closed (L := fun j => Lst listed j = true) hcl' (j + 1) j x (by omega) (hcl j hj) hx
  have hgi := pl.mkget hi
  have hle : Le (mkS ops.size ms bls s0 ds i) (effs (Lst listed) s0 ds) := by
    refine mkS_le (fun j hj => hmi j (by rw [← hgi]; exact hj)) (fun e he => pl.lt he) (fun e he h1 h2 => ?_) pl.bl ?_
    · refine unordB_iff.2 ⟨fun hh => ?_, h2, ?_⟩
      · rw [← hh, hni] at h1; cases h1
      · rw [pl.mkget (pl.lt he), ← Bool.not_eq_true]
        intro hb
        rw [hmj e.i i h1 hb] at hni; cases hni
    · refine pl.sorted.imp fun {u e} ⟨hlt, hu, he⟩ h1 h2 h3 => pl.ap u hu e he (unordB_iff.2 ⟨by omega, ?_, ?_⟩)
      · rw [pl.mkget (pl.lt hu), ← Bool.not_eq_true]
        intro hb
        have := mk_lt pl.pre (u.i + 1) u.i e.i (by omega) hb
        omega
      · rw [pl.mkget (pl.lt he), ← Bool.not_eq_true]
        intro hb
        rw [hgi] at h2 h3
        rw [mk_trans pl.pre (i + 1) i e.i u.i (by omega) h3 hb] at h2; cases h2
  have hset : effs (Lst (listed.setIfInBounds i true)) s0 ds = (effs (Lst listed) s0 ds).eff d := by
    rw [effs_congr (g := fun j => Nat.beq j i || Lst listed j) fun e _ => Lst_set (by omega) e.i]
    refine effs_insert hni hd hdi (by rw [pl.idx]; exact List.nodup_range) ?_
    refine pl.sorted.imp fun {x y} ⟨hlt, hx, hy⟩ h1 h2 => pl.ap x hx y hy (unordB_iff.2 ⟨by omega, ?_, ?_⟩)
    · rw [pl.mkget (pl.lt hx), ← Bool.not_eq_true]
      intro hb
      have := mk_lt pl.pre (x.i + 1) x.i y.i (by omega) hb
      omega
    · rw [pl.mkget (pl.lt hy), ← Bool.not_eq_true]
      intro hb
      rw [h1] at hb
      rw [hmj y.i i h2 hb] at hni; cases hni
  rw [hset] at hK
  obtain ⟨o, ho, hdst, hgood⟩ := pl.good d hd
  rw [hdi] at ho hgood
  unfold wpOp
  simp only [ho]
  rcases hgood with ⟨hw, hv, hr0, hit⟩ | ⟨hw, hk, hv, ⟨q, q', he⟩, hob⟩
  · rw [wanted_rel h (hle.wanted hw)]
    simp only [Bool.false_eq_true, if_false]
    refine hK ι _ _ ?_ fun e he hei => by rw [huniq e he hei, hit]; trivial
    have : (effs (Lst listed) s0 ds).eff d = (effs (Lst listed) s0 ds).put o.dst (.tup []) := by
      rw [St.eff, hr0, hv, hdst]; rfl
    rw [this]
    exact Rel.put h o.dst undef_rel
  · rw [wanted_rel h (hle.wanted hw)]
    simp only [if_true]
    left
    have hroom : Room (effs (Lst listed) s0 ds) d.n (slots o) := by
      intro x h1 h2
      obtain ⟨h3, h4⟩ := pl.room d hd x h1 (by rw [hk]; exact h2)
      refine ⟨effs_free _ ds s0 h3 fun e hem hle p hp hpx => ?_, by rw [effs_olen]; exact h4⟩
      have hne : d.i ≠ e.i := by
        intro hh
        rw [← hh, hdi, hni] at hle; cases hle
      have := pl.far d hd e hem hne (by
        rw [pl.mkget (pl.lt hem), ← Bool.not_eq_true]
        intro hb
        rw [hdi] at hb
        rw [hmj e.i i hle hb] at hni; cases hni) p hp
      rw [hk] at this
      omega
    obtain ⟨h1, h2⟩ := aop_sound h (hle.aop he) (VC.of_obl hob) hroom
    refine h1 _ _ fun ι' v w' hr' hv' => hK ι' _ _ ?_ fun e hem hei => by rw [huniq e hem hei]; exact h2
    rw [St.eff, hdst, hv]
    exact Rel.put hr' o.dst hv'

theorem draw_any (pl : DPlan P ops ms bls s0 ds) {Q : Exit → Act → World → Prop} (hQ : ∀ ι a w, Rel E (effs (fun _ => true) s0 ds) ι a w → (∀ d ∈ ds, asmT d.it) → Q .normal a w) :
    ∀ (fuel : Nat) (listed : Array Bool) (ι : Interp) (a : Act) (w : World), listed.size = ops.size → (∀ j, Lst listed j = true → ∀ p ∈ opPreds ops j, Lst listed p = true) →
      (List.range ops.size).countP (fun j => !Lst listed j) ≤ fuel → Rel E (effs (Lst listed) s0 ds) ι a w → (∀ d ∈ ds, Lst listed d.i = true → asmT d.it) → wpAny P .any ops Q fuel listed a w := by
  intro fuel
  have hend : ∀ (listed : Array Bool) (ι : Interp) (a : Act) (w : World), listed.size = ops.size → Rel E (effs (Lst listed) s0 ds) ι a w → (∀ d ∈ ds, Lst listed d.i = true → asmT d.it) →
      Region.ready .any ops listed = [] → Q .normal a w := by
    intro listed ι a w hsz h hasm hnil
    have hall : ∀ d ∈ ds, Lst listed d.i = true := fun d hd => ready_nil hnil hsz pl.pre (d.i + 1) d.i (by omega) (pl.lt hd)
    refine hQ ι a w ?_ fun d hd => hasm d hd (hall d hd)
    rw [effs_congr (g := fun _ => true) hall] at h
    exact h
  induction fuel with
  | zero =>
    intro listed ι a w hsz hcl hun h hasm
    have hnil : Region.ready .any ops listed = [] := by
      cases hr : Region.ready .any ops listed with
      | nil => rfl
      | cons i l =>
        exfalso
        obtain ⟨h1, h2, _⟩ := ready_spec (ops := ops) (i := i) (by rw [hr]; exact List.mem_cons_self) hsz
        have h0 : (List.range ops.size).countP (fun j => !Lst listed j) = 0 := Nat.le_zero.1 hun
        have := List.countP_eq_zero.1 h0 i (List.mem_range.2 h2)
        simp [h1] at this
    exact ⟨hnil, hend listed ι a w hsz h hasm hnil⟩
  | succ fuel ih =>
    intro listed ι a w hsz hcl hun h hasm
    refine ⟨hend listed ι a w hsz h hasm, fun i hi => ?_⟩
    obtain ⟨hni, hlt, hpre⟩ := ready_spec hi hsz
    have hset := fun j => Lst_set (listed := listed) (i := i) (by omega) j
    refine draw_step pl hi hsz hcl h fun ι' a' w' hr' hasm' => ih _ ι' a' w' (by simpa using hsz) (fun j hj p hp => ?_) ?_ hr' fun d hd hdl => ?_
    · rw [hset, Bool.or_eq_true] at hj ⊢
      right
      rcases hj with hj | hj
      · have := Nat.eq_of_beq_eq_true hj
        subst this
        exact hpre p hp
      · exact hcl j hj p hp
    · have : (List.range ops.size).countP (fun j => !Lst (listed.setIfInBounds i true) j) < (List.range ops.size).countP (fun j => !Lst listed j) := by
        refine countP_lt (i := i) (List.mem_range.2 hlt) (by simp [hni]) (by rw [hset]; simp) fun j hj => ?_
        rw [hset] at hj
        simp only [Bool.not_eq_true', Bool.or_eq_false_iff] at hj ⊢
        exact hj.2
      omega
    · rw [hset, Bool.or_eq_true] at hdl
      rcases hdl with hdl | hdl
      · exact hasm' d hd (Nat.eq_of_beq_eq_true hdl)
      · exact hasm d hd hdl

end
end Go.Proofs.Ytamcedjjlokfhaa.Ab
