/- The abstract machine, part 31: a region that draws its order, whatever it draws. No condition. -/
import Derived.Test.YtamcedjjlokfhaaAb30
namespace Go.Proofs.Ytamcedjjlokfhaa.Ab
open Go
set_option linter.unusedVariables false

theorem mk_intro {ops : Array Oper} (hp : ∀ i, ∀ p ∈ opPreds ops i, p < i) {i p x : Nat} (h1 : p ∈ opPreds ops i) (h2 : x = p ∨ (mk ops p).testBit x = true) : (mk ops i).testBit x = true := by
  have key : ∀ (ms : List Nat) (ps : List Nat), p ∈ ps → (x = p ∨ (ms.getD p 0).testBit x = true) → (maskOf ms ps).testBit x = true := by
    intro ms ps
    induction ps with
    | nil => intro h; cases h
    | cons q ps ih =>
      intro hm hx
      simp only [maskOf, Nat.testBit_or, Bool.or_eq_true, Nat.one_shiftLeft, Nat.testBit_two_pow, decide_eq_true_eq]
      rcases List.mem_cons.1 hm with rfl | hm
      · rcases hx with rfl | hx
        · exact .inl (.inr rfl)
        · exact .inr hx
      · exact .inl (.inl (ih hm hx))
  refine key (masks ops i) _ h1 (h2.imp id fun h => ?_)
  rw [masks_get ops i p (hp i p h1)]; exact h

theorem mk_trans {ops : Array Oper} (hp : ∀ i, ∀ p ∈ opPreds ops i, p < i) : ∀ (n i d e : Nat), i < n → (mk ops i).testBit d = true → (mk ops d).testBit e = true → (mk ops i).testBit e = true
  | 0, i, d, e, hi, _, _ => by omega
  | n + 1, i, d, e, hi, h1, h2 => by
    obtain ⟨p, hpi, h⟩ := mk_bit h1
    rcases h with rfl | ⟨hlt, h⟩
    · exact mk_intro hp hpi (.inr h2)
    · exact mk_intro hp hpi (.inr (mk_trans hp n p d e (by omega) h h2))

def asmT : List Item → Prop
  | [] => True
  | .asm p :: r => p ∧ asmT r
  | .obl _ :: r => asmT r

theorem VC.mono : ∀ {it : List Item} {K K' : Prop}, (K → K') → VC it K → VC it K'
  | [], _, _, h, k => h k
  | .asm _ :: _, _, _, h, k => fun p => VC.mono h (k p)
  | .obl _ :: _, _, _, h, k => ⟨k.1, VC.mono h k.2⟩

theorem VC.of_obl : ∀ {it : List Item}, oblK it True → VC it (asmT it)
  | [], _ => trivial
  | .asm p :: r, h => fun hp => VC.mono (fun k => ⟨hp, k⟩) (VC.of_obl (it := r) h)
  | .obl p :: r, h => ⟨h.1, VC.of_obl (it := r) h.2⟩

theorem asmK_out : ∀ {it : List Item} {K : Prop}, asmK it K → asmT it → K
  | [], _, h, _ => h
  | .asm _ :: r, _, h, k => asmK_out (it := r) (h k.1) k.2
  | .obl _ :: r, _, h, k => asmK_out (it := r) h k

theorem effs_congr {f g : Nat → Bool} : ∀ {ds : List Eff} {s : St}, (∀ d ∈ ds, f d.i = g d.i) → effs f s ds = effs g s ds
  | [], _, _ => rfl
  | d :: ds, s, h => by
    simp only [effs, h d List.mem_cons_self]
    split <;> exact effs_congr fun e he => h e (List.mem_cons_of_mem _ he)

/-- one more effect, wherever it stands in the row -/
theorem effs_insert {f : Nat → Bool} {i : Nat} (hf : f i = false) : ∀ {ds : List Eff} {s : St} {d : Eff}, d ∈ ds → d.i = i → (ds.map (·.i)).Nodup →
    (ds.Pairwise fun x y => x.i = i → f y.i = true → x.apart y = true) → effs (fun j => Nat.beq j i || f j) s ds = (effs f s ds).eff d
  | x :: ds, s, d, hm, hd, hnd, hP => by
    obtain ⟨hn1, hn2⟩ := List.nodup_cons.1 (by simpa using hnd : (x.i :: ds.map (·.i)).Nodup)
    obtain ⟨hP1, hP2⟩ := List.pairwise_cons.1 hP
    simp only [effs]
    rcases List.mem_cons.1 hm with rfl | hm'
    · rw [hd, hf]
      simp only [Nat.beq_refl, Bool.true_or]
      have hc : ∀ e ∈ ds, (fun j => Nat.beq j i || f j) e.i = f e.i := by
        intro e he
        have hne : e.i ≠ i := fun h => hn1 (by rw [hd, ← h]; exact List.mem_map_of_mem he)
        have : Nat.beq e.i i = false := by rw [← Bool.not_eq_true]; exact fun h => hne (Nat.eq_of_beq_eq_true h)
        simp [this]
      rw [effs_congr hc]
      -- the effect moves behind those that follow
      have mv : ∀ (l : List Eff) (s : St), (∀ e ∈ l, f e.i = true → d.apart e = true) → effs f (s.eff d) l = (effs f s l).eff d := by
        intro l
        induction l with
        | nil => intro s _; rfl
        | cons e l ih =>
          intro s hl
          simp only [effs]
          cases he : f e.i with
          | false => exact ih s fun e' he' => hl e' (List.mem_cons_of_mem _ he')
          | true =>
            simp only
            rw [eff_comm s (hl e List.mem_cons_self he)]
            exact ih _ fun e' he' => hl e' (List.mem_cons_of_mem _ he')
      exact mv ds s fun e he hfe => hP1 e he hd hfe
    · have hne : x.i ≠ i := fun h => hn1 (by rw [h, ← hd]; exact List.mem_map_of_mem hm')
      have : Nat.beq x.i i = false := by rw [← Bool.not_eq_true]; exact fun h => hne (Nat.eq_of_beq_eq_true h)
      simp only [this, Bool.false_or]
      cases f x.i with
      | true => exact effs_insert hf hm' hd hn2 hP2
      | false => exact effs_insert hf hm' hd hn2 hP2

theorem effs_olen (f : Nat → Bool) : ∀ (ds : List Eff) (s : St), (effs f s ds).objs.length = s.objs.length
  | [], _ => rfl
  | d :: ds, s => by
    simp only [effs]
    split
    · rw [effs_olen f ds, eff_olen]
    · exact effs_olen f ds s

theorem effs_free (f : Nat → Bool) {x : Nat} : ∀ (ds : List Eff) (s : St), s.obj x = .free → (∀ d ∈ ds, f d.i = true → ∀ p ∈ d.obs, p.1 ≠ x) → (effs f s ds).obj x = .free
  | [], s, h, _ => h
  | d :: ds, s, h, hd => by
    simp only [effs]
    cases hf : f d.i with
    | false => exact effs_free f ds s h fun e he => hd e (List.mem_cons_of_mem _ he)
    | true =>
      refine effs_free f ds _ ?_ fun e he => hd e (List.mem_cons_of_mem _ he)
      rcases eff_obj2 s s d x rfl with ⟨o, ho, _⟩ | ⟨e, _⟩
      · exact absurd rfl (hd d List.mem_cons_self hf (x, o) ho)
      · rw [e, h]; rfl

end Go.Proofs.Ytamcedjjlokfhaa.Ab
