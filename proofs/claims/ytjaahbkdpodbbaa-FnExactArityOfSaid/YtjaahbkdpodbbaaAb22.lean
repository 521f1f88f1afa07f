/- The abstract machine, part 22: code. No condition. -/
import Derived.Test.YtjaahbkdpodbbaaAb21
namespace Go.Proofs.Ytjaahbkdpodbbaa.Ab
open Go
set_option linter.unusedVariables false

def AEx.to : AEx → Exit
  | .normal => .normal
  | .exit i => .exit i
  | .ret => .ret

def applyGhost (s : St) : Ghost → Option St
  | .sel ids keep => match selOK s.m ids with
    | true => some (s.sel ids keep)
    | false => none
  | .lock id => match s.obj id with
    | .arr _ _ es => some (s.lock id es)
    | _ => none
  | .nilreg t own sz => nilReg s t own sz
  | .nilbox id k own sz => nilBox s id k own sz

def withGhost : List Orc → St → (St → List Orc → Prop) → Prop
  | .ghost g :: q, s, k => match applyGhost s g with
    | some s' => withGhost q s' k
    | none => StuckGhost s g
  | q, s, k => k s q

abbrev Outs := List (Prop × AEx × St × List Orc)

/-- ████ A ROUND OF A LOOP: from what holds at its head at measure m: to the head at a smaller one, or out by one of the ways. ████ -/
def LoopSem (P : Program) (c : Code) (I : Nat → St → Prop) (outs : Outs) : Prop :=
  ∀ (E : Ent) (m : Nat) (s : St) (ι : Interp) (a : Act) (w : World), I m s → Rel E s ι a w → c.wp P (fun e a' w' => ∃ s' ι', Rel E s' ι' a' w' ∧
    ((e = .normal ∧ ∃ m', m' < m ∧ I m' s') ∨ ∃ o ∈ outs, o.1 ∧ e = o.2.1.to ∧ e ≠ .normal ∧ o.2.2.1 = s')) a w

def outsK (k : AEx → St → List Orc → Prop) : Outs → Prop
  | [] => True
  | o :: r => (o.1 → k o.2.1 o.2.2.1 o.2.2.2) ∧ outsK k r

theorem outsK_mem {k : AEx → St → List Orc → Prop} : ∀ {l : Outs}, outsK k l → ∀ {o}, o ∈ l → o.1 → k o.2.1 o.2.2.1 o.2.2.2
  | x :: l, h, o, hm, ho => by
    rcases List.mem_cons.1 hm with rfl | hm
    · exact h.1 ho
    · exact outsK_mem h.2 hm ho

/-- what is asked at the end of a round -/
def loopK (I : Nat → St → Prop) (outs : Outs) (m : Nat) : AEx → St → List Orc → Prop
  | .normal, s, q => withGhost q s fun s q => match q with
    | .out _ :: _ => ∃ m', m' < m ∧ I m' s
    | _ => StuckOut .normal s
  | e, s, q => withGhost q s fun s q => match q with
    | .out i :: _ => match outs[i]? with
      | some o => o.1 ∧ o.2.1 = e ∧ o.2.2.1 = s
      | none => False
    | _ => StuckOut e s

def condK (b : Bool) (q : List Orc) (x y : List Orc → Prop) : Prop :=
  match q with
  | .bool true :: q => b = true ∧ x q
  | .bool false :: q => b = false ∧ y q
  | .br l r :: _ => (b = true → x l) ∧ (b = false → y r)
  | _ => StuckB b

/-- what a test has told of its register -/
def condS (s : St) (c : Operand) (b : Bool) : St := match c with
  | .tmp t => s.put (some t) (blit b)
  | _ => s

def aexec (P : Program) : Code → St → List Orc → (AEx → St → List Orc → Prop) → Prop
  | .skip, s, q, k => k .normal s q
  | .region _ ops false, s, q, k => withGhost q s fun s q => aops P ops (List.range ops.size) s q (k .normal)
  | .seq x y, s, q, k => aexec P x s q fun e s q => match e with
    | .normal => aexec P y s q k
    | e => k e s q
  | .cond c x y, s, q, k => match s.lit c with
    | some (.bool b) => condK b q (fun q => aexec P x (condS s c true) q k) (fun q => aexec P y (condS s c false) q k)
    | _ => StuckCond s c
  | .block id c, s, q, k => aexec P c s q fun e s q => match e with
    | .exit i => match Nat.beq i id with
      | true => k .normal s q
      | false => k (.exit i) s q
    | e => k e s q
  | .exit i, s, q, k => k (.exit i) s q
  | .ret, s, q, k => k .ret s q
  | .loop c, s, q, k => withGhost q s fun s q => match q with
    | .loop m I outs :: _ => I m s ∧ LoopSem P c I outs ∧ outsK k outs
    | _ => StuckLoop s
  | c, _, _, _ => StuckCode c

section
variable {P : Program} {E : Ent} {s : St} {ι : Interp} {a : Act} {w : World}

theorem ghost_rel : ∀ {q : List Orc} {s : St} {k : St → List Orc → Prop} {ι : Interp}, withGhost q s k → Rel E s ι a w → ∃ s' q' ι', k s' q' ∧ Rel E s' ι' a w
  | [], s, k, ι, hx, h => ⟨_, _, _, hx, h⟩
  | o :: q, s, k, ι, hx, h => by
    cases o with
    | ghost g =>
      simp only [withGhost] at hx
      split at hx
      · rename_i s' he
        cases g with
        | sel ids keep =>
          simp only [applyGhost] at he
          split at he
          · rename_i hok
            simp only [Option.some.injEq] at he; subst he
            exact ghost_rel hx (h.sel keep hok)
          · cases he
        | lock id =>
          simp only [applyGhost] at he
          split at he
          · rename_i ho
            simp only [Option.some.injEq] at he; subst he
            obtain ⟨ι', h'⟩ := h.lock ho
            exact ghost_rel hx h'
          · cases he
        | nilreg t own sz =>
          obtain ⟨ι', h'⟩ := nilReg_rel h he
          exact ghost_rel hx h'
        | nilbox id k own sz =>
          obtain ⟨ι', h'⟩ := nilBox_rel h he
          exact ghost_rel hx h'
      · cases hx
    | _ => exact ⟨_, _, _, hx, h⟩

theorem condK_sound {b : Bool} {q : List Orc} {x y : List Orc → Prop} (h : condK b q x y) : (b = true ∧ ∃ q', x q') ∨ (b = false ∧ ∃ q', y q') := by
  unfold condK at h
  split at h
  · exact .inl ⟨h.1, _, h.2⟩
  · exact .inr ⟨h.1, _, h.2⟩
  · cases b
    · exact .inr ⟨rfl, _, h.2 rfl⟩
    · exact .inl ⟨rfl, _, h.1 rfl⟩
  · cases h

theorem condS_rel (h : Rel E s ι a w) {c : Operand} {b : Bool} (hb : a.eval c = .bool b) : Rel E (condS s c b) ι a w := by
  cases c with
  | tmp t =>
    have hb' : a.tmps.getD t undef = .bool b := by simpa [Act.eval] using hb
    have := Rel.put h (some t) (x := blit b) (v := a.tmps.getD t undef) (by rw [hb']; exact ⟨.lit trivial, fun _ => rfl⟩)
    rw [put_self] at this
    exact this
  | _ => exact h

theorem loop_rounds {c : Code} {I : Nat → St → Prop} {outs : Outs} (hl : LoopSem P c I outs) {Q : Exit → Act → World → Prop}
    (hQ : ∀ o ∈ outs, o.1 → ∀ ι a w, o.2.1.to ≠ .normal → Rel E o.2.2.1 ι a w → Q o.2.1.to a w) :
    ∀ (N m : Nat) (s : St) (ι : Interp) (a : Act) (w : World), m < N → I m s → Rel E s ι a w → Code.rounds P c Q N a w
  | 0, m, s, ι, a, w, hm, _, _ => absurd hm (Nat.not_lt_zero _)
  | N + 1, m, s, ι, a, w, hm, hI, h => by
    rw [rounds_succ]
    refine Code.wp_mono ?_ (hl E m s ι a w hI h)
    rintro e a' w' ⟨s', ι', h', (⟨rfl, m', hm', hI'⟩ | ⟨o, ho, hp, rfl, hn, rfl⟩)⟩
    · exact loop_rounds hl hQ N m' s' ι' a' w' (by omega) hI' h'
    · have := hQ o ho hp ι' a' w' hn h'
      cases e : o.2.1 with
      | normal => rw [e] at hn; exact absurd rfl hn
      | exit i => rw [e] at this; exact this
      | ret => rw [e] at this; exact this

theorem aexec_sound : ∀ (c : Code) {s : St} {q : List Orc} {k : AEx → St → List Orc → Prop} {ι : Interp} {a : Act} {w : World},
    aexec P c s q k → Rel E s ι a w → c.wp P (fun e a' w' => ∃ ex s' q' ι', e = ex.to ∧ k ex s' q' ∧ Rel E s' ι' a' w') a w := by
  intro c
  induction c with
  | skip => intro s q k ι a w hx h; exact wp_skip ⟨.normal, _, _, _, rfl, hx, h⟩
  | region id ops draw =>
    intro s q k ι a w hx h
    cases draw with
    | true => cases (show StuckCode _ from hx)
    | false =>
      obtain ⟨s', q', ι', hx, h⟩ := ghost_rel (show withGhost q s _ from hx) h
      exact wp_region (aops_sound hx h fun s' q' ι' a' w' hk hr => ⟨.normal, _, _, _, rfl, hk, hr⟩)
  | seq x y ihx ihy =>
    intro s q k ι a w hx h
    refine wp_seq (Code.wp_mono ?_ (ihx (show aexec P x s q _ from hx) h))
    rintro e a' w' ⟨ex, s', q', ι', rfl, hk, hr⟩
    cases ex with
    | normal => exact ihy hk hr
    | exit i => exact ⟨.exit i, _, _, _, rfl, hk, hr⟩
    | ret => exact ⟨.ret, _, _, _, rfl, hk, hr⟩
  | cond c x y ihx ihy =>
    intro s q k ι a w hx h
    simp only [aexec] at hx
    split at hx
    · rename_i b hb
      have hc := (lit_rel h hb).1
      rcases condK_sound hx with ⟨rfl, q', hx⟩ | ⟨rfl, q', hx⟩
      · exact wp_cond_true hc (ihx hx (condS_rel h hc))
      · exact wp_cond_false hc (ihy hx (condS_rel h hc))
    · cases hx
  | block id c ih =>
    intro s q k ι a w hx h
    refine wp_block (Code.wp_mono ?_ (ih (show aexec P c s q _ from hx) h))
    rintro e a' w' ⟨ex, s', q', ι', rfl, hk, hr⟩
    cases ex with
    | normal => exact ⟨.normal, _, _, _, rfl, hk, hr⟩
    | exit i =>
      simp only [AEx.to, Exit.inBlock]
      simp only at hk
      split at hk
      · rename_i hb
        rw [if_pos (Nat.eq_of_beq_eq_true hb)]
        exact ⟨.normal, _, _, _, rfl, hk, hr⟩
      · rename_i hb
        rw [if_neg (Nat.ne_of_beq_eq_false hb)]
        exact ⟨.exit i, _, _, _, rfl, hk, hr⟩
    | ret => exact ⟨.ret, _, _, _, rfl, hk, hr⟩
  | exit i => intro s q k ι a w hx h; exact wp_exit ⟨.exit i, _, _, _, rfl, hx, h⟩
  | ret => intro s q k ι a w hx h; exact wp_ret ⟨.ret, _, _, _, rfl, hx, h⟩
  | loop c ih =>
    intro s q k ι a w hx h
    obtain ⟨s', q', ι', hx, h⟩ := ghost_rel (show withGhost q s _ from hx) h
    split at hx
    · rename_i m I outs q1
      obtain ⟨h1, h2, h3⟩ := hx
      exact wp_loop_rounds (m + 1) (loop_rounds h2 (fun o ho hp ι a w hn hr => ⟨_, _, _, _, rfl, outsK_mem h3 ho hp, hr⟩) (m + 1) m s' ι' a w (Nat.lt_succ_self _) h1 h)
    · cases hx
  | _ => intro s q k ι a w hx h; cases (show StuckCode _ from hx)

theorem LoopSem.intro {c : Code} {I : Nat → St → Prop} {outs : Outs} (h : ∀ m s, I m s → ∃ q, aexec P c s q (loopK I outs m)) : LoopSem P c I outs := by
  intro E m s ι a w hI hr
  obtain ⟨q, hx⟩ := h m s hI
  refine Code.wp_mono ?_ (aexec_sound c hx hr)
  rintro e a' w' ⟨ex, s', q', ι', rfl, hk, hr'⟩
  cases ex with
  | normal =>
    obtain ⟨s2, q2, ι2, hk, hr2⟩ := ghost_rel (show withGhost q' s' _ from hk) hr'
    split at hk
    · exact ⟨s2, ι2, hr2, .inl ⟨rfl, hk⟩⟩
    · cases hk
  | exit i =>
    obtain ⟨s2, q2, ι2, hk, hr2⟩ := ghost_rel (show withGhost q' s' _ from hk) hr'
    split at hk
    · split at hk
      · rename_i o ho
        exact ⟨s2, ι2, hr2, .inr ⟨o, List.mem_of_getElem? ho, hk.1, by rw [hk.2.1], by simp [AEx.to], hk.2.2⟩⟩
      · cases hk
    · cases hk
  | ret =>
    obtain ⟨s2, q2, ι2, hk, hr2⟩ := ghost_rel (show withGhost q' s' _ from hk) hr'
    split at hk
    · split at hk
      · rename_i o ho
        exact ⟨s2, ι2, hr2, .inr ⟨o, List.mem_of_getElem? ho, hk.1, by rw [hk.2.1], by simp [AEx.to], hk.2.2⟩⟩
      · cases hk
    · cases hk

end
end Go.Proofs.Ytjaahbkdpodbbaa.Ab
