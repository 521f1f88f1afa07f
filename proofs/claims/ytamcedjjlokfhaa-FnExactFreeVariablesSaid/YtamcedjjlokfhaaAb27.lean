/- The abstract machine, part 27: effects of operations as data; two that are apart commute. No condition. -/
import Derived.Test.YtamcedjjlokfhaaAb26
namespace Go.Proofs.Ytamcedjjlokfhaa.Ab
open Go
set_option linter.unusedVariables false

/-- what one operation of a region has done -/
structure Eff where
  i : Nat
  dst : Option Nat
  val : AV
  n : Nat
  k : Nat
  r : Res
  it : List Item

def St.eff (s : St) (d : Eff) : St := (s.app d.n d.r).put d.dst d.val

def enum1 : Nat → List Ob → List (Nat × Ob)
  | _, [] => []
  | n, o :: l => (n, o) :: enum1 (n + 1) l

def Eff.obs (d : Eff) : List (Nat × Ob) := d.r.upd ++ enum1 d.n d.r.new

def AC.touch (ids : List Nat) (c : AC) : Bool := match c.src with | some id => ids.elem id | none => false
def AV.touch (ids : List Nat) (x : AV) : Bool := match ids with | [] => false | _ => x.acs.any (AC.touch ids)
def Ob.touch (ids : List Nat) (o : Ob) : Bool := match ids with | [] => false | _ => o.acs.any (AC.touch ids)

/-- their effects do not meet -/
def Eff.apart (d e : Eff) : Bool :=
  (match d.dst, e.dst with | some x, some y => !(Nat.beq x y) | _, _ => true) &&
  !(d.val.touch e.r.inv) && !(e.val.touch d.r.inv) &&
  d.obs.all (fun p => !(p.2.touch e.r.inv) && e.obs.all fun p' => !(Nat.beq p.1 p'.1)) &&
  e.obs.all (fun p => !(p.2.touch d.r.inv))

theorem setObs_eq : ∀ (l : List Ob) (n : Nat) (s : St), s.setObs n l = s.updObs (enum1 n l)
  | [], _, _ => rfl
  | o :: l, n, s => by rw [St.setObs, enum1, St.updObs]; exact setObs_eq l (n + 1) _

theorem eff_eq (s : St) (d : Eff) : s.eff d = ((s.inval d.r.inv).updObs d.obs).put d.dst d.val := by
  rw [St.eff, St.app, setObs_eq, Eff.obs, updObs_append]

theorem invAC_nil (c : AC) : invAC [] c = c := by unfold invAC; split <;> rfl
theorem invSV_nil (x : SV) : invSV [] x = x := by
  cases x with
  | one c => simp [invSV, invAC_nil]
  | agg cs => simp only [invSV]; congr 1; exact (List.map_congr_left fun c _ => invAC_nil c).trans (List.map_id' cs)
theorem invAV_nil (x : AV) : invAV [] x = x := by
  cases x with
  | sv x => simp [invAV, invSV_nil]
  | tup l => simp only [invAV]; congr 1; exact (List.map_congr_left fun c _ => invSV_nil c).trans (List.map_id' l)
theorem invOb_nil (o : Ob) : invOb [] o = o := by
  cases o with
  | box cs => simp only [invOb]; congr 1; exact (List.map_congr_left fun c _ => invAC_nil c).trans (List.map_id' cs)
  | _ => rfl

theorem inval_eq (ids : List Nat) (s : St) : s.inval ids = { s with regs := s.regs.map (invAV ids), objs := s.objs.map (invOb ids) } := by
  cases ids with
  | nil =>
    show s = _
    have h1 : s.regs.map (invAV []) = s.regs := (List.map_congr_left fun c _ => invAV_nil c).trans (List.map_id' _)
    have h2 : s.objs.map (invOb []) = s.objs := (List.map_congr_left fun c _ => invOb_nil c).trans (List.map_id' _)
    rw [h1, h2]
  | cons => rfl

theorem invAC_eq (ids : List Nat) (c : AC) : invAC ids c = if c.touch ids = true then .top else c := by
  unfold invAC AC.touch
  cases c.src with
  | none => simp
  | some id => rfl
theorem invAC_comm (a b : List Nat) (c : AC) : invAC a (invAC b c) = invAC b (invAC a c) := by
  have ht : ∀ l, AC.top.touch l = false := fun _ => rfl
  by_cases ha : c.touch a = true <;> by_cases hb : c.touch b = true <;> simp [invAC_eq, ha, hb, ht]
theorem invSV_comm (a b : List Nat) (x : SV) : invSV a (invSV b x) = invSV b (invSV a x) := by
  cases x with
  | one c => simp [invSV, invAC_comm a b]
  | agg cs => simp only [invSV, List.map_map]; congr 1; exact List.map_congr_left fun c _ => invAC_comm a b c
theorem invAV_comm (a b : List Nat) (x : AV) : invAV a (invAV b x) = invAV b (invAV a x) := by
  cases x with
  | sv x => simp [invAV, invSV_comm a b]
  | tup l => simp only [invAV, List.map_map]; congr 1; exact List.map_congr_left fun c _ => invSV_comm a b c
theorem invOb_comm (a b : List Nat) (x : Ob) : invOb a (invOb b x) = invOb b (invOb a x) := by
  cases x with
  | box cs => simp only [invOb, List.map_map]; congr 1; exact List.map_congr_left fun c _ => invAC_comm a b c
  | _ => rfl

theorem invAC_same {ids : List Nat} {c : AC} (h : c.touch ids = false) : invAC ids c = c := by
  unfold AC.touch at h; unfold invAC
  cases e : c.src with
  | none => rfl
  | some id => rw [e] at h; simp only at h ⊢; rw [if_neg (by rw [h]; simp)]
theorem invSV_same {ids : List Nat} {x : SV} (h : x.acs.any (AC.touch ids) = false) : invSV ids x = x := by
  cases x with
  | one c => simp only [SV.acs, List.any_cons, List.any_nil, Bool.or_false] at h; simp [invSV, invAC_same h]
  | agg cs =>
    simp only [SV.acs] at h; simp only [invSV]; congr 1
    exact (List.map_congr_left fun c hc => invAC_same (by simpa using (List.any_eq_false.1 h) c hc)).trans (List.map_id' cs)
theorem invAV_same {ids : List Nat} {x : AV} (h : x.touch ids = false) : invAV ids x = x := by
  cases ids with
  | nil => exact invAV_nil x
  | cons i ids =>
    simp only [AV.touch] at h
    cases x with
    | sv x => simp only [AV.acs] at h; simp [invAV, invSV_same h]
    | tup l =>
      simp only [AV.acs] at h; simp only [invAV]; congr 1
      refine (List.map_congr_left fun c hc => invSV_same ?_).trans (List.map_id' l)
      rw [List.any_eq_false] at h ⊢
      exact fun a ha => h a (List.mem_flatMap.2 ⟨c, hc, ha⟩)
theorem invOb_same {ids : List Nat} {x : Ob} (h : x.touch ids = false) : invOb ids x = x := by
  cases ids with
  | nil => exact invOb_nil x
  | cons i ids =>
    simp only [Ob.touch] at h
    cases x with
    | box cs =>
      simp only [Ob.acs] at h; simp only [invOb]; congr 1
      exact (List.map_congr_left fun c hc => invAC_same (by simpa using (List.any_eq_false.1 h) c hc)).trans (List.map_id' cs)
    | _ => rfl

theorem inval_comm (a b : List Nat) (s : St) : (s.inval a).inval b = (s.inval b).inval a := by
  rw [inval_eq, inval_eq, inval_eq, inval_eq]
  simp only [List.map_map]
  congr 1
  · exact List.map_congr_left fun c _ => invAV_comm b a c
  · exact List.map_congr_left fun c _ => invOb_comm b a c

theorem inval_put (ids : List Nat) (s : St) (dst : Option Nat) (v : AV) (h : v.touch ids = false) : (s.put dst v).inval ids = (s.inval ids).put dst v := by
  rw [inval_eq, inval_eq]
  cases dst with
  | none => rfl
  | some d => simp only [St.put, List.map_set, invAV_same h]

theorem inval_setOb (ids : List Nat) (s : St) (n : Nat) (o : Ob) (h : o.touch ids = false) : (s.setOb n o).inval ids = (s.inval ids).setOb n o := by
  rw [inval_eq, inval_eq]
  simp only [St.setOb, List.map_set, invOb_same h]

theorem inval_updObs (ids : List Nat) : ∀ (l : List (Nat × Ob)) (s : St), (∀ p ∈ l, p.2.touch ids = false) → (s.updObs l).inval ids = (s.inval ids).updObs l
  | [], s, _ => rfl
  | (n, o) :: l, s, h => by
    rw [St.updObs, St.updObs, inval_updObs ids l _ fun p hp => h p (List.mem_cons_of_mem _ hp), inval_setOb ids s n o (h (n, o) List.mem_cons_self)]

theorem updObs_put : ∀ (l : List (Nat × Ob)) (s : St) (dst : Option Nat) (v : AV), (s.put dst v).updObs l = (s.updObs l).put dst v
  | [], s, dst, v => rfl
  | (n, o) :: l, s, dst, v => by
    rw [St.updObs, St.updObs, ← updObs_put l]
    cases dst <;> rfl

theorem setOb_comm (s : St) {i j : Nat} (h : i ≠ j) (o o' : Ob) : (s.setOb i o).setOb j o' = (s.setOb j o').setOb i o := by
  simp only [St.setOb, List.set_comm _ _ h]

theorem updObs_setOb : ∀ (l : List (Nat × Ob)) (s : St) (i : Nat) (o : Ob), (∀ p ∈ l, p.1 ≠ i) → (s.setOb i o).updObs l = (s.updObs l).setOb i o
  | [], s, i, o, _ => rfl
  | (n, x) :: l, s, i, o, h => by
    rw [St.updObs, St.updObs, setOb_comm s (Ne.symm (h (n, x) List.mem_cons_self)), updObs_setOb l _ i o fun p hp => h p (List.mem_cons_of_mem _ hp)]

theorem updObs_comm : ∀ (l m : List (Nat × Ob)) (s : St), (∀ p ∈ l, ∀ p' ∈ m, p.1 ≠ p'.1) → (s.updObs l).updObs m = (s.updObs m).updObs l
  | [], m, s, _ => rfl
  | (n, o) :: l, m, s, h => by
    rw [St.updObs, St.updObs, updObs_comm l m _ fun p hp => h p (List.mem_cons_of_mem _ hp), updObs_setOb m s n o fun p hp => Ne.symm (h (n, o) List.mem_cons_self p hp)]

theorem put_comm' (s : St) {x y : Option Nat} (v u : AV) (h : (match x, y with | some x, some y => !(Nat.beq x y) | _, _ => true) = true) : (s.put x v).put y u = (s.put y u).put x v := by
  cases x with
  | none => rfl
  | some x =>
    cases y with
    | none => rfl
    | some y =>
      have hne : x ≠ y := by
        rintro rfl
        simp at h
      simp only [St.put, List.set_comm _ _ hne]

theorem eff_comm (s : St) {d e : Eff} (h : d.apart e = true) : (s.eff d).eff e = (s.eff e).eff d := by
  simp only [Eff.apart, Bool.and_eq_true, Bool.not_eq_true', List.all_eq_true] at h
  obtain ⟨⟨⟨⟨h1, h2⟩, h3⟩, h4⟩, h5⟩ := h
  have hne : ∀ p ∈ d.obs, ∀ p' ∈ e.obs, p.1 ≠ p'.1 := fun p hp p' hp' => Nat.ne_of_beq_eq_false ((h4 p hp).2 p' hp')
  rw [eff_eq, eff_eq, eff_eq, eff_eq]
  rw [inval_put _ _ _ _ h2, inval_put _ _ _ _ h3, inval_updObs _ _ _ fun p hp => (h4 p hp).1, inval_updObs _ _ _ fun p hp => h5 p hp]
  rw [updObs_put, updObs_put, updObs_comm _ _ _ hne, put_comm' _ _ _ h1, inval_comm]

end Go.Proofs.Ytamcedjjlokfhaa.Ab
