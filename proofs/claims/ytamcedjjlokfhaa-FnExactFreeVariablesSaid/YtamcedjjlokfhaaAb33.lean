/- The abstract machine, part 33: from the run of a drawn region to every order of it. No condition. -/
import Derived.Test.YtamcedjjlokfhaaAb32
namespace Go.Proofs.Ytamcedjjlokfhaa.Ab
open Go
set_option linter.unusedVariables false

section
variable {P : Program} {E : Ent} {ops : Array Oper} {ms : List Nat} {bls : List (Option Nat × List Nat)} {s0 : St}

theorem effs_append (f : Nat → Bool) : ∀ (a b : List Eff) (s : St), effs f s (a ++ b) = effs f (effs f s a) b
  | [], b, s => rfl
  | d :: a, b, s => by
    simp only [List.cons_append, effs]
    split <;> exact effs_append f a b _

theorem effs_none {f : Nat → Bool} : ∀ {b : List Eff} {s : St}, (∀ d ∈ b, f d.i = false) → effs f s b = s
  | [], _, _ => rfl
  | d :: b, s, h => by
    simp only [effs, h d List.mem_cons_self]
    exact effs_none fun e he => h e (List.mem_cons_of_mem _ he)

def Chain (P : Program) (ops : Array Oper) (ms : List Nat) (bls : List (Option Nat × List Nat)) (s0 : St) : List Eff → List Eff → Prop
  | _, [] => True
  | pre, d :: r => GoodE P ops ms bls s0 pre d ∧ Chain P ops ms bls s0 (pre ++ [d]) r

theorem oblK_split : ∀ {it : List Item} {K : Prop}, oblK it K → oblK it True ∧ K
  | [], _, h => ⟨trivial, h⟩
  | .asm _ :: r, _, h => oblK_split (it := r) h
  | .obl _ :: r, _, h => ⟨⟨h.1, (oblK_split (it := r) h.2).1⟩, (oblK_split (it := r) h.2).2⟩

theorem decideV_ok {src : Bool} {v : AV} {q : List Orc} {k : AV → List Orc → Prop} (h : decideV src v q k) : ∃ q', k v q' := by
  unfold decideV at h
  split at h
  · rename_i b
    split at h
    · obtain ⟨rfl, h⟩ := h; exact ⟨_, h⟩
    · cases b
      · exact ⟨_, h.2 rfl⟩
      · exact ⟨_, h.1 rfl⟩
    · cases h
  · exact ⟨_, h⟩

theorem drun_sound : ∀ {l : List Nat} {n : Nat} {pre : List Eff} {its : List Item} {q : List Orc} {k : List Eff → List Item → List Orc → Prop}, drun P ops ms bls s0 l n pre its q k →
    ∃ r q', Chain P ops ms bls s0 pre r ∧ k (pre ++ r) (its ++ r.flatMap (·.it)) q'
  | [], n, pre, its, q, k, h => ⟨[], q, trivial, by simpa [drun] using h⟩
  | i :: l, n, pre, its, q, k, h => by
    unfold drun at h
    split at h
    · exact h.elim
    · rename_i o ho
      rw [mkSK_eq] at h
      split at h
      · cases h
      · rename_i hw
        rw [fNat_eq, forceL_eq fId_eq] at h
        obtain ⟨r, q', hc, hk⟩ := drun_sound h
        refine ⟨(⟨i, o.dst, .tup [], n, slots o, {}, []⟩ : Eff) :: r, q', ⟨⟨o, ho, rfl, .inl ⟨hw, rfl, rfl, rfl⟩⟩, hc⟩, ?_⟩
        rw [List.append_assoc] at hk
        simpa only [List.flatMap_cons, List.nil_append, List.singleton_append, List.append_assoc] using hk
      · rename_i hw
        split at h
        · cases h
        · rename_i r1 it q1 he
          obtain ⟨hob, h⟩ := oblK_split h
          rw [fRes_eq] at h
          obtain ⟨q2, h⟩ := decideV_ok h
          rw [fNat_eq, forceL_eq fId_eq, forceL_eq fId_eq] at h
          obtain ⟨r, q', hc, hk⟩ := drun_sound h
          refine ⟨(⟨i, o.dst, r1.val, n, slots o, r1, it⟩ : Eff) :: r, q', ⟨⟨o, ho, rfl, .inr ⟨hw, rfl, rfl, ⟨q, q1, he⟩, hob⟩⟩, hc⟩, ?_⟩
          rw [List.append_assoc] at hk
          simpa only [List.flatMap_cons, List.singleton_append, List.append_assoc] using hk

theorem mkS_append {n i : Nat} {pre r : List Eff} (h : ∀ d ∈ r, (ms.getD i 0).testBit d.i = false) : mkS n ms bls s0 (pre ++ r) i = mkS n ms bls s0 pre i := by
  unfold mkS
  rw [effs_append, effs_none h]

theorem chain_good (hms : ms = masks ops ops.size) (hp : ∀ i, ∀ p ∈ opPreds ops i, p < i) : ∀ {r pre : List Eff}, (pre ++ r).map (·.i) = List.range ops.size → Chain P ops ms bls s0 pre r → ∀ d ∈ r, GoodE P ops ms bls s0 (pre ++ r) d
  | d :: r, pre, hr, hc, x, hx => by
    have hassoc : pre ++ d :: r = (pre ++ [d]) ++ r := by simp
    rcases List.mem_cons.1 hx with rfl | hx
    · have hpw : ((pre ++ x :: r).map (·.i)).Pairwise (· < ·) := by rw [hr]; exact List.pairwise_lt_range
      have hpw2 : (x :: r).Pairwise fun a b => a.i < b.i := (List.pairwise_append.1 (List.pairwise_map.1 hpw)).2.1
      have hxi : x.i < ops.size := by
        have : x.i ∈ (pre ++ x :: r).map (·.i) := List.mem_map_of_mem (by simp)
        rw [hr] at this; simpa using this
      have e : mkS ops.size ms bls s0 (pre ++ x :: r) x.i = mkS ops.size ms bls s0 pre x.i := by
        refine mkS_append fun d hd => ?_
        rw [hms, masks_get ops _ _ hxi, ← Bool.not_eq_true]
        intro hb
        have hlt := mk_lt hp (x.i + 1) x.i d.i (by omega) hb
        rcases List.mem_cons.1 hd with rfl | hd
        · omega
        · have := (List.pairwise_cons.1 hpw2).1 d hd; omega
      have hg := hc.1
      unfold GoodE at hg ⊢
      rw [e]; exact hg
    · rw [hassoc]
      exact chain_good hms hp (by rw [← hassoc]; exact hr) hc.2 x hx

theorem optEq_eq : ∀ {x y : Option Nat}, optEq x y = true → x = y
  | none, none, _ => rfl
  | some x, some y, h => by rw [Nat.eq_of_beq_eq_true h]

theorem asmT_append : ∀ {a b : List Item}, asmT a → asmT b → asmT (a ++ b)
  | [], b, _, h => h
  | .asm _ :: a, b, h, k => ⟨h.1, asmT_append h.2 k⟩
  | .obl _ :: a, b, h, k => asmT_append (a := a) h k

theorem asmT_flat : ∀ {ds : List Eff}, (∀ d ∈ ds, asmT d.it) → asmT (ds.flatMap (·.it))
  | [], _ => trivial
  | d :: ds, h => by
    rw [List.flatMap_cons]
    exact asmT_append (h d List.mem_cons_self) (asmT_flat fun e he => h e (List.mem_cons_of_mem _ he))

theorem Lst_none (n j : Nat) : Lst (Array.replicate n false) j = false := by
  simp only [Lst, Array.getD_eq_getD_getElem?, Array.getElem?_replicate]
  split <;> rfl

inductive StuckDraw (s : St) (ds : List Eff) : Prop

def fBl (p : Option Nat × List Nat) (k : Option Nat × List Nat → Prop) : Prop := match p with
  | (d, l) => forceL fNat l fun l => k (d, l)
theorem fBl_eq (p : Option Nat × List Nat) (k : Option Nat × List Nat → Prop) : fBl p k = k p := by
  cases p; simp [fBl, forceL_eq fNat_eq]

/-- a region that draws its order -/
def adraw (P : Program) (ops : Array Oper) (tids : List (Nat × List Nat)) (s : St) (q : List Orc) (k : St → List Orc → Prop) : Prop :=
  forceL fNat (masks ops ops.size) fun ms => forceL fBl (blots ops tids (List.range ops.size) s.objs.length) fun bls => fSt (s.grow (total ops (List.range ops.size))) fun s0 => fNat s.objs.length fun n0 =>
  drun P ops ms bls s0 (List.range ops.size) n0 [] [] q fun ds its q =>
    match dcheck ops ms bls n0 (n0 + total ops (List.range ops.size)) ds with
    | true => asmK its (effsK (fun _ => true) s0 ds fun s => fSt s.shrink fun s => k s q)
    | false => StuckDraw s ds

theorem adraw_sound (hm : P.follows .mixedOrders = true) {id : Nat} {tids : List (Nat × List Nat)} {s : St} {q : List Orc} {k : St → List Orc → Prop} {Q : Exit → Act → World → Prop} {ι : Interp} {a : Act} {w : World}
    (hx : adraw P ops tids s q k) (h : Rel E s ι a w) (hk : ∀ s' q' ι' a' w', k s' q' → Rel E s' ι' a' w' → Q .normal a' w') : (Code.region id ops true).wp P Q a w := by
  unfold adraw at hx
  rw [forceL_eq fNat_eq, forceL_eq fBl_eq, fSt_eq, fNat_eq] at hx
  obtain ⟨ds, q', hc, hfin⟩ := drun_sound hx
  simp only [List.nil_append] at hc hfin
  split at hfin
  · rename_i hd
    rw [effsK_eq, fSt_eq] at hfin
    simp only [dcheck, Bool.and_eq_true, List.all_eq_true, beq_iff_eq] at hd
    obtain ⟨⟨hidx, hpre⟩, hall⟩ := hd
    have hp : ∀ i, ∀ p ∈ opPreds ops i, p < i := by
      intro i p hpi
      by_cases hi : i < ops.size
      · have h1 := hpre i (List.mem_range.2 hi) p hpi
        exact Nat.le_of_ble_eq_true h1
      · have hn : ops[i]? = none := Array.getElem?_eq_none (Nat.le_of_not_lt hi)
        simp [opPreds, hn] at hpi
    have hgood := chain_good (pre := []) rfl hp (by simpa using hidx) hc
    have pl : DPlan P ops (masks ops ops.size) (blots ops tids (List.range ops.size) s.objs.length) (s.grow (total ops (List.range ops.size))) ds := by
      refine ⟨rfl, by simpa using hgood, hidx, hp, fun d hdm => ?_, fun d hdm x h1 h2 => ?_, fun d hdm e hem hne hnb p hpm => ?_, fun d hdm e hem hu => ?_⟩
      · obtain ⟨⟨⟨⟨⟨h1, h2⟩, h3⟩, _⟩, _⟩, _⟩ := hall d hdm
        exact ⟨optEq_eq h1, h2, h3⟩
      · obtain ⟨⟨⟨_, h4⟩, h5⟩, _⟩ := hall d hdm
        have h4 := Nat.le_of_ble_eq_true h4
        have h5 := Nat.le_of_ble_eq_true h5
        refine ⟨?_, by simp [St.grow]; omega⟩
        rw [obj_grow]
        simp [St.obj, List.getElem?_eq_none (show s.objs.length ≤ x by omega)]
      · have h6 := ((hall d hdm).2 e hem).1
        simp only [Bool.or_eq_true, List.all_eq_true] at h6
        rcases h6 with h6 | h6
        · rcases h6 with h6 | h6
          · exact absurd (Nat.eq_of_beq_eq_true h6) hne
          · rw [hnb] at h6; cases h6
        · rcases h6 p hpm with h7 | h7
          · exact .inl (Nat.le_of_ble_eq_true h7)
          · exact .inr (Nat.le_of_ble_eq_true h7)
      · have h6 := ((hall d hdm).2 e hem).2
        rw [hu] at h6
        simpa using h6
    refine wp_region_any hm (draw_any pl (E := E) (fun ι a w hr hasm => hk _ _ ι a w (asmK_out hfin (asmT_flat hasm)) (Rel.shrink hr)) ops.size _ ι a _ (by simp) (fun j hj => ?_) ?_ ?_ fun d hd hl => ?_)
    · rw [Lst_none] at hj; cases hj
    · exact Nat.le_trans List.countP_le_length (by simp)
    · have hnone : ∀ d ∈ ds, Lst (Array.replicate ops.size false) d.i = false := fun d _ => Lst_none _ _
      rw [effs_none hnone]
      exact (h.grow _).world rfl rfl rfl
    · exfalso
      rw [Lst_none] at hl; cases hl
  · cases hfin

end
end Go.Proofs.Ytamcedjjlokfhaa.Ab
