/- The abstract machine, part 23: from a run of the body to the contract of the function. No condition. -/
import Derived.Test.YtamcedjjlokfhaaAb22
namespace Go.Proofs.Ytamcedjjlokfhaa.Ab
open Go
set_option linter.unusedVariables false

def resV (P : Program) (s : St) : ResultVar → Option SV
  | .tmp t => match s.reg t with | .sv x => some x | _ => none
  | .cell ad T => match s.ac (.tmp ad), tsize P T, tagg P T with
    | some c, some n, some ag => match readAt s c n [] with
      | some (l, [], _) => mkSV ag l
      | _ => none
    | _, _, _ => none

def resL (P : Program) (s : St) : List ResultVar → Option (List SV)
  | [] => some []
  | r :: l => match resV P s r, resL P s l with
    | some x, some y => some (x :: y)
    | _, _ => none

def resA : List SV → AV
  | [x] => .sv x
  | l => .tup l

def ObsEq (a b : List Ob) : Prop := a = b

def finK (P : Program) (rs : List ResultVar) (objs1 : List Ob) (res : AV) : AEx → St → List Orc → Prop
  | .exit _, _, _ => False
  | _, s, q => withGhost q s fun s q => match q with
    | .fin ids :: _ => match selOK s.m (List.range s.m ++ ids), resL P s rs with
      | true, some l => ObsEq ((List.range s.m ++ ids).map (fun i => (s.obj i).sel (List.range s.m ++ ids))) objs1 ∧ (resA l).sel (List.range s.m ++ ids) = res
      | _, _ => StuckFin s
    | _ => StuckFin s

section
variable {P : Program} {E : Ent} {s : St} {ι : Interp} {a : Act} {w : World}

def resM (tmps : Array Value) : ResultVar → Sem Value
  | .tmp t => pure (tmps.getD t undef)
  | .cell ad t => do loadVar t (← asAddr (tmps.getD ad undef))

theorem resV_rel (h : Rel E s ι a w) {r : ResultVar} {x : SV} (e : resV P s r = some x) : ∃ v, (resM a.tmps r).run P w = .ok v w ∧ SVRel w ι s.obj x v := by
  cases r with
  | tmp t =>
    simp only [resV] at e
    have hr := h.regs t
    split at e
    · rename_i y hy
      simp only [Option.some.injEq] at e; subst e
      rw [hy] at hr
      exact ⟨_, by simp [resM], hr⟩
    · cases e
  | cell ad T =>
    simp only [resV] at e
    split at e
    · rename_i c n ag hc hn hg
      split at e
      · rename_i l q' hr
        obtain ⟨⟨b, off, xs, hp, hl, hx, ha⟩, _⟩ := readAt_sound (K := True) h hr (ac_rel h hc) trivial
        have hp' : a.tmps.getD ad undef = .pointer (some ⟨b, off, none⟩) := by rw [← hp]; simp [Act.eval]
        have hlen : xs.length = n := by rw [← ha.length]; exact hl
        rcases mkSV_rel e ha with ⟨rfl, hs⟩ | ⟨rfl, u, rfl, hs⟩
        · refine ⟨_, ?_, hs⟩
          simp only [resM, hp', asAddr, Sem.run_bind, Sem.run_pure, Result.andThen_ok]
          exact run_loadVar_agg hg hn hlen hx
        · refine ⟨_, ?_, hs⟩
          simp only [resM, hp', asAddr, Sem.run_bind, Sem.run_pure, Result.andThen_ok]
          exact run_loadVar_one hg (hx 0 u rfl)
      · cases e
    · cases e

theorem resL_rel (h : Rel E s ι a w) : ∀ {rs : List ResultVar} {l : List SV}, resL P s rs = some l → ∃ vs, (rs.mapM (resM a.tmps)).run P w = .ok vs w ∧ All2 (SVRel w ι s.obj) l vs
  | [], l, e => by simp only [resL, Option.some.injEq] at e; subst e; exact ⟨[], by simp, trivial⟩
  | r :: rs, l, e => by
    simp only [resL] at e
    split at e
    · rename_i x y hx hy
      simp only [Option.some.injEq] at e; subst e
      obtain ⟨v, h1, h2⟩ := resV_rel h hx
      obtain ⟨vs, h3, h4⟩ := resL_rel h hy
      refine ⟨v :: vs, ?_, h2, h4⟩
      simp only [List.mapM_cons, Sem.run_bind, h1, Result.andThen_ok, h3, Sem.run_pure]
    · cases e

theorem results_rel (h : Rel E s ι a w) {fn : Func} {rs : List ResultVar} (hf : fn.results = rs.toArray) {l : List SV} (e : resL P s rs = some l) :
    ∃ v, (results fn a.tmps).run P w = .ok v w ∧ AVRel w ι s.obj (resA l) v := by
  obtain ⟨vs, h1, h2⟩ := resL_rel h e
  have hm : (fn.results.mapM (resM a.tmps)).run P w = .ok vs.toArray w := by
    rw [hf, List.mapM_toArray, map_eq_pure_bind, Sem.run_bind, h1]; rfl
  refine ⟨if hh : vs.toArray.size = 1 then vs.toArray[0] else .tuple vs.toArray, ?_, ?_⟩
  · have he : results fn a.tmps = (do let vs ← fn.results.mapM (resM a.tmps); pure (if h : vs.size = 1 then vs[0] else .tuple vs)) := by
      unfold results
      congr 1
    rw [he, Sem.run_bind, hm]
    rfl
  · match l, vs, h2 with
    | [], [], _ => exact ⟨#[], rfl, trivial⟩
    | [x], [v], h2 => exact (show SVRel w ι s.obj x _ from by simpa using h2.1)
    | x :: y :: l, v :: u :: vs, h2 => exact ⟨(v :: u :: vs).toArray, by simp, h2⟩

/-- the state at the entry -/
def entry (objs0 : List Ob) (args : List SV) (n : Nat) : St := { regs := args.map AV.sv ++ List.replicate (n - args.length) atop, objs := objs0, m := objs0.length }

theorem CallOK.intro (hm : P.follows .mixedOrders = true) {f : FuncId} {fn : Func} {c : Code} {objs0 : List Ob} {args : List SV} {objs1 : List Ob} {res : AV} {rs : List ResultVar} (q : List Orc)
    (hc : ∀ xs w, (callFunc f xs).run P w = .ok (.enter f xs) w) (hf : P.funcs[f]? = some fn) (hb : fn.body = some c) (hr : fn.results = rs.toArray) {n : Nat} (hn : fn.ntmps = n)
    (h : aexec P c (entry objs0 args n) q (finK P rs objs1 res)) : CallOK P f objs0 args objs1 res := by
  refine ⟨hc, fun w ι vals hp => ?_⟩
  refine calls_of_wp hf hb ?_
  have hal : args.length = vals.size := by simpa using hp.arg.length
  have hrel : Rel ⟨w, ι, obOf objs0⟩ (entry objs0 args n) ι { tmps := vals ++ Array.replicate (fn.ntmps - vals.size) undef, defers := [] } w := by
    refine { len := ?_, defers := rfl, regs := fun t => ?_, objs := hp.obj, disj := hp.disj, gfp := hp.gfp, own := fun i b hi => .inl ⟨i, hi⟩, lt := hp.lt, glt := hp.glt, frame := fun _ _ _ => rfl, size := Nat.le_refl _, os := rfl, out := rfl,
             ent := fun i => ?_, gg := fun _ hb => hb, gown := fun _ hb => .inl hb, ment := fun i hi => ?_ }
    · simp [entry, hal, hn]
    · simp only [entry, St.reg, List.getD_eq_getElem?_getD, List.getElem?_append, List.getElem?_map, List.length_map, Array.getD_eq_getD_getElem?, Array.getElem?_append]
      by_cases ht : t < args.length
      · rw [if_pos ht, if_pos (by omega)]
        obtain ⟨v, hv, hrel⟩ := hp.arg.get_left (List.getElem?_eq_getElem ht)
        rw [List.getElem?_eq_getElem ht, ← Array.getElem?_toList, hv]
        exact hrel
      · rw [if_neg ht]
        rw [List.getElem?_replicate]
        split
        · exact top_rel
        · exact top_rel
    · show OStep w w ι ι False i (obOf objs0 i) (obOf objs0 i)
      cases obOf objs0 i <;> simp [OStep]
    · show obOf objs0 i = .free
      simp [obOf, List.getElem?_eq_none (show objs0.length ≤ i from hi)]
  refine Code.wp_mono ?_ (aexec_sound hm c h hrel)
  rintro e a' w' ⟨ex, s', q', ι', rfl, hk, hr'⟩
  have main : ∀ {s' : St} {ι' : Interp} {q' : List Orc}, withGhost q' s' (fun s q => match q with
    | .fin ids :: _ => match selOK s.m (List.range s.m ++ ids), resL P s rs with
      | true, some l => ObsEq ((List.range s.m ++ ids).map (fun i => (s.obj i).sel (List.range s.m ++ ids))) objs1 ∧ (resA l).sel (List.range s.m ++ ids) = res
      | _, _ => StuckFin s
    | _ => StuckFin s) → Rel ⟨w, ι, obOf objs0⟩ s' ι' a' w' →
      a'.defers = [] ∧ ∃ v, (results fn a'.tmps).run P w' = .ok v w' ∧ ∃ v1 ι', Ending.returned v = .returned v1 ∧ PostRel w ι objs0 objs1 res w' v1 ι' := by
    intro s' ι' q' hk hr'
    obtain ⟨s2, q2, ι2, hk, h2⟩ := ghost_rel hk hr'
    split at hk
    · rename_i ids qq
      split at hk
      · rename_i l hok hl
        obtain ⟨rfl, rfl⟩ := hk
        obtain ⟨v, h3, h4⟩ := results_rel h2 hr hl
        refine ⟨h2.defers, v, h3, v, selI ι2 (List.range s2.m ++ ids), rfl, ?_⟩
        have h5 := h2.sel [] hok
        have hobj : (s2.sel (List.range s2.m ++ ids) []).obj = obOf ((List.range s2.m ++ ids).map fun i => (s2.obj i).sel (List.range s2.m ++ ids)) := rfl
        have hs : Sel (List.range s2.m ++ ids) s2.obj (s2.sel (List.range s2.m ++ ids) []).obj := ⟨fun j i e => by
          rw [hobj]
          simp only [obOf, List.getD_eq_getElem?_getD, List.getElem?_map, e]; rfl⟩
        exact { ext := h5.ent, obj := h5.objs, disj := h5.disj, gfp := h5.gfp, lt := h5.lt, glt := h5.glt, gg := h5.gg, gown := fun b hb => h5.gown b hb, own := fun j b hb => h5.own j b hb,
                frame := fun b hb hn => h5.frame b hb (fun ⟨i, hi⟩ => hn i hi), size := h5.size, os := h5.os, out := h5.out, val := AVRel.sel hs h4 }
      · cases hk
    · cases hk
  cases ex with
  | normal => exact main hk hr'
  | exit i => exact hk.elim
  | ret => exact main hk hr'

theorem CallOK.ofRun (hm : P.follows .mixedOrders = true) {f : FuncId} {fn : Func} {c : Code} {objs0 : List Ob} {args : List SV} {objs1 : List Ob} {res : AV} {rs : List ResultVar} {q : List Orc} {n : Nat} {T : Prop}
    (run : aexec P c (entry objs0 args n) q (finK P rs objs1 res) = T) (hc : ∀ xs w, (callFunc f xs).run P w = .ok (.enter f xs) w) (hf : P.funcs[f]? = some fn) (hb : fn.body = some c) (hr : fn.results = rs.toArray)
    (hn : fn.ntmps = n) (h : T) : CallOK P f objs0 args objs1 res :=
  CallOK.intro hm q hc hf hb hr hn (by rw [run]; exact h)

theorem LoopSem.ofRuns (hm : P.follows .mixedOrders = true) {c : Code} {I : Nat → St → Prop} {outs : Ways} (h : ∀ m s, I m s → ∃ q T, aexec P c s q (loopK I outs m) = T ∧ T) : LoopSem P c I outs :=
  LoopSem.intro hm fun m s hI => let ⟨q, T, e, t⟩ := h m s hI; ⟨q, by rw [e]; exact t⟩

end
end Go.Proofs.Ytamcedjjlokfhaa.Ab
