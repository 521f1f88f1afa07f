/- The abstract machine, part 24: from a contract to what a statement asks of the call. No condition. -/
import Derived.Test.YtamcedjjlokfhaaAb23
import Derived.ProofKit
import Derived.OpenShut
namespace Go.Proofs.Ytamcedjjlokfhaa.Ab
open Go Go.ChangeShapes
set_option linter.unusedVariables false

def cI (n : Int) : Cell := .lit (.int .i64 n)
def cB (b : Bool) : Cell := .lit (.bool b)
def cS (s : ByteArray) : Cell := .lit (.string s)
def vI (n : Int) : AC := .val (cI n)
def vB (b : Bool) : AC := .val (cB b)
def vS (s : ByteArray) : AC := .val (cS s)
def vL (es : List (List Cell)) : AC := .val (.list es)
def li (n : Int) : SV := .one (vI n)
def lb (b : Bool) : SV := .one (vB b)
def ls (s : ByteArray) : SV := .one (vS s)
def ll (es : List (List Cell)) : SV := .one (vL es)
def strC (s : ByteArray) : List Cell := [cS s]
def intC (n : Int) : List Cell := [cI n]

/-- the j-th cell of the i-th element -/
def cellAt (es : List (List Cell)) (i j : Nat) : Cell := ((es[i]?).getD []).getD j default
def vals (l : List Cell) : List AC := l.map .val

/-- registers by number; the others: nothing known -/
def regsOf (n : Nat) (l : List (Nat × AV)) : List AV := (List.range n).map fun t => match l.lookup t with | some v => v | none => atop

def loopsOf : Code → List Code
  | .seq a b => loopsOf a ++ loopsOf b
  | .cond _ a b => loopsOf a ++ loopsOf b
  | .block _ c => loopsOf c
  | .loop c => c :: loopsOf c
  | _ => []

/-- the body of the i-th loop of a function -/
def loopAt (fn : Func) (i : Nat) : Code := (loopsOf (fn.body.getD .skip)).getD i .skip

theorem get_of {α : Type} {es : List (List Cell)} {f : α → List Cell} {L : List α} {i : Nat} {d : α} {x : List Cell} (hi : i < L.length) (he : es = L.map f) (hx : x = f (L.getD i d)) : es[i]? = some x := by
  subst he; subst hx
  simp [hi]

theorem li_rel {w : World} {ι : Interp} {ob : Nat → Ob} (n : Int) : SVRel w ι ob (li n) (.int .i64 n) := ⟨.lit trivial, fun _ => rfl⟩
theorem lb_rel {w : World} {ι : Interp} {ob : Nat → Ob} (b : Bool) : SVRel w ι ob (lb b) (.bool b) := ⟨.lit trivial, fun _ => rfl⟩

/-- everything there is may be read, nothing is owned -/
def allI (w : World) : Interp := { G := fun b => b < w.heap.size, blk := fun _ => 0, sl := fun _ => .slice none 0 0, fp := fun _ _ => False }

theorem CallOK.kept {P : Program} {f : FuncId} {args : List SV} {v : Value} (h : CallOK P f [] args [] (.sv (.one (.val (.lit v))))) {w : World} {vals : Array Value}
    (hv : All2 (SVRel w (allI w) (obOf [])) args vals.toList) : Calls P f vals w fun e w' => e = .returned v ∧ w.kept w' ∧ w.heap.size ≤ w'.heap.size := by
  have hp : PreRel w (allI w) [] args vals :=
    { obj := fun j => fun _ hb => hb, disj := fun _ _ _ _ hb => hb.elim, gfp := fun _ _ hb => hb.elim, lt := fun _ _ hb => hb.elim, glt := fun _ hb => hb, arg := hv }
  refine (h.2 w (allI w) vals hp).mono ?_
  rintro e w' ⟨u, ι', rfl, hpost⟩
  have hu := (Rd.lit_inv (show Rd w' ι'.G u (.lit v) from hpost.val.1)).1
  refine ⟨by rw [hu], ⟨hpost.os, hpost.out, fun i hi => hpost.frame i hi fun _ hb => hb⟩, hpost.size⟩

section
variable {P : Program} {H : Type} {enc : TypeId × Value → H}

theorem frozen_kept {W W' : World} (hk : W.kept W') {a : Addr} (ha : a.block < W.heap.size) : W'.frozen? a = W.frozen? a := by
  unfold World.frozen?; rw [hk.2.2 _ ha]

theorem post_of_kept {f : Func} {s : ChangeSpec} {apart fresh handsOn again : Bool} {W W' : World} {args : Array Value} {v : Value} {ds gs : List (DataW H)} {before pa pv : List MemPlace}
    (hW : DataW.Whole enc P f.params.toList s.vars apart W args.toList ds gs before)
    (hres : ∀ (b : Nat) (sp : Nat → Bool) (hd : Bool), DataW.TrodAll enc P W' b sp hd f.resultTypes.toList (v.resultList f.resultTypes.size) (s.fn H (ds ++ gs)).results [])
    (hargs : ∀ sp : Nat → Bool, (∀ p ∈ before, sp p.block = true) → DataW.TrodAll enc P W' 0 sp true f.params.toList args.toList (s.fn H (ds ++ gs)).args pa)
    (hvars : ∀ sp : Nat → Bool, (∀ p ∈ before, sp p.block = true) → DataW.TrodVars enc P W' sp s.vars (s.fn H (ds ++ gs)).vars pv)
    (hps : before = pa ++ pv) (hk : W.kept W')
    (hok : ∀ (j : Nat) (t : TypeId) (r : Value), f.resultTypes[j]? = some t → (v.resultList f.resultTypes.size)[j]? = some r → Value.okWide P W' .any 0 t r) :
    s.post enc P f apart fresh handsOn again W args v W' := by
  have old : ∀ p ∈ before, decide (p.block < W.heap.size) = true := fun p hp => by simpa using hW.lt p hp
  have kb : W.keptBut W' (fun p => p ∈ before ∧ (p ∈ ([] : List MemPlace) ∨ p ∈ pa ∨ p ∈ pv)) := World.keptBut_mono (fun _ f => f.elim) (World.keptBut_none_iff.2 hk)
  refine ⟨ds, gs, before, [], pa, pv, hW, hres _ _ _, hargs (fun b => decide (b < W.heap.size)) old, hvars (fun b => decide (b < W.heap.size)) old, kb, fun _ => ?_⟩
  have lt0 := hW.lt
  obtain ⟨_, _, _, _, _, hz, hn⟩ := hW
  refine ⟨hok, _, _, ([] ++ pa) ++ pv, ⟨[] ++ pa, pv, trodAll_append (hargs _ (fun _ _ => rfl)) (hres _ _ _), hvars _ (fun _ _ => rfl), rfl, fun b off hp => ?_, fun ha => ?_⟩, fun p hp _ => ?_⟩
  · have hb : MemPlace.cell b off ∈ before := by rw [hps]; simpa using hp
    rw [frozen_kept hk (lt0 _ hb)]
    exact hz b off hb
  · have := hn ha
    rw [hps] at this
    simpa using this
  · rw [hps]; simpa using hp
end
end Go.Proofs.Ytamcedjjlokfhaa.Ab
