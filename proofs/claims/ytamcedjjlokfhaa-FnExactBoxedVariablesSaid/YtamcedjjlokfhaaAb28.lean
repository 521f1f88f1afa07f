/- The abstract machine, part 28: a region that draws its order: the run, and what is checked. No condition. -/
import Derived.Test.YtamcedjjlokfhaaAb27
import Derived.Orders
namespace Go.Proofs.Ytamcedjjlokfhaa.Ab
open Go
set_option linter.unusedVariables false

/-! ### who waits for whom -/
def opPreds (ops : Array Oper) (i : Nat) : List Nat := match ops[i]? with
  | some o => (o.after.toList.filter fun e => Region.binds .any e).map (·.on)
  | none => []

def maskOf (ms : List Nat) : List Nat → Nat
  | [] => 0
  | p :: ps => (maskOf ms ps ||| 1 <<< p) ||| ms.getD p 0

def masks (ops : Array Oper) : Nat → List Nat
  | 0 => []
  | n + 1 => match masks ops n with | ms => ms ++ [maskOf ms (opPreds ops n)]

theorem maskOf_bit {ms : List Nat} : ∀ {ps : List Nat} {x : Nat}, (maskOf ms ps).testBit x = true → ∃ p ∈ ps, x = p ∨ (ms.getD p 0).testBit x = true
  | [], x, h => by simp [maskOf] at h
  | p :: ps, x, h => by
    simp only [maskOf, Nat.testBit_or, Bool.or_eq_true, Nat.one_shiftLeft, Nat.testBit_two_pow, decide_eq_true_eq] at h
    rcases h with (h | h) | h
    · obtain ⟨p', h1, h2⟩ := maskOf_bit h
      exact ⟨p', List.mem_cons_of_mem _ h1, h2⟩
    · exact ⟨p, List.mem_cons_self, .inl h.symm⟩
    · exact ⟨p, List.mem_cons_self, .inr h⟩

theorem masks_length (ops : Array Oper) : ∀ n, (masks ops n).length = n
  | 0 => rfl
  | n + 1 => by simp [masks, masks_length ops n]

def mk (ops : Array Oper) (i : Nat) : Nat := maskOf (masks ops i) (opPreds ops i)

theorem masks_get (ops : Array Oper) : ∀ (n i : Nat), i < n → (masks ops n).getD i 0 = mk ops i
  | 0, i, h => by omega
  | n + 1, i, h => by
    have hl := masks_length ops n
    simp only [masks, List.getD_eq_getElem?_getD, List.getElem?_append, hl]
    by_cases hi : i < n
    · rw [if_pos hi]
      have := masks_get ops n i hi
      simpa [List.getD_eq_getElem?_getD] using this
    · have : i = n := by omega
      subst this
      rw [if_neg hi]; simp [mk]

theorem mk_bit {ops : Array Oper} {i x : Nat} (h : (mk ops i).testBit x = true) : ∃ p ∈ opPreds ops i, x = p ∨ (p < i ∧ (mk ops p).testBit x = true) := by
  obtain ⟨p, h1, h2⟩ := maskOf_bit h
  refine ⟨p, h1, h2.imp id fun h2 => ?_⟩
  by_cases hp : p < i
  · exact ⟨hp, by rwa [masks_get ops i p hp] at h2⟩
  · rw [List.getD_eq_getElem?_getD, List.getElem?_eq_none (by rw [masks_length]; omega)] at h2
    simp at h2

theorem mk_lt {ops : Array Oper} (hp : ∀ i, ∀ p ∈ opPreds ops i, p < i) : ∀ (n i x : Nat), i < n → (mk ops i).testBit x = true → x < i
  | 0, i, x, hi, _ => by omega
  | n + 1, i, x, hi, h => by
    obtain ⟨p, h1, h2⟩ := mk_bit h
    have := hp i p h1
    rcases h2 with rfl | ⟨h2, h3⟩
    · exact this
    · have := mk_lt hp n p x (by omega) h3
      omega

theorem mk_closed {ops : Array Oper} {L : Nat → Prop} (hL : ∀ j, L j → ∀ p ∈ opPreds ops j, L p) : ∀ (n i x : Nat), i < n → (∀ p ∈ opPreds ops i, L p) → (mk ops i).testBit x = true → L x
  | 0, i, x, hi, _, _ => by omega
  | n + 1, i, x, hi, hpre, h => by
    obtain ⟨p, h1, h2⟩ := mk_bit h
    rcases h2 with rfl | ⟨h2, h3⟩
    · exact hpre _ h1
    · exact mk_closed hL n p x (by omega) (hL p (hpre p h1)) h3

/-! ### what an operation may know -/
def unk : AV := .sv (.agg [])

def blotObs (ids : List Nat) : Nat → List Ob → List Ob
  | _, [] => []
  | n, o :: l => (match ids.elem n || o.touch ids with | true => .dead | false => o) :: blotObs ids (n + 1) l

def blotAV (ids : List Nat) (x : AV) : AV := match x.touch ids with | true => unk | false => x

def St.blot (s : St) (dst : Option Nat) (ids : List Nat) : St := match ids with
  | [] => s.put dst unk
  | _ :: _ => { s with regs := s.regs.map (blotAV ids), objs := blotObs ids 0 s.objs }.put dst unk

def blotAll (s : St) : List (Option Nat × List Nat) → St
  | [] => s
  | (d, ids) :: l => blotAll (s.blot d ids) l

def unordB (ms : List Nat) (i j : Nat) : Bool := !(Nat.beq i j) && !((ms.getD i 0).testBit j) && !((ms.getD j 0).testBit i)

def blotsFor (ms : List Nat) (bls : List (Option Nat × List Nat)) (i : Nat) : List Nat → List (Option Nat × List Nat)
  | [] => []
  | j :: l => match unordB ms i j with
    | true => bls.getD j (none, []) :: blotsFor ms bls i l
    | false => blotsFor ms bls i l

def effs (f : Nat → Bool) (s : St) : List Eff → St
  | [] => s
  | d :: l => match f d.i with
    | true => effs f (s.eff d) l
    | false => effs f s l

def mkS (n : Nat) (ms : List Nat) (bls : List (Option Nat × List Nat)) (s0 : St) (ds : List Eff) (i : Nat) : St :=
  blotAll (effs (fun j => (ms.getD i 0).testBit j) s0 ds) (blotsFor ms bls i (List.range n))

/-- the obligations of items, without what they know -/
def oblK : List Item → Prop → Prop
  | [], K => K
  | .asm _ :: r, K => oblK r K
  | .obl p :: r, K => p ∧ oblK r K

def asmK : List Item → Prop → Prop
  | [], K => K
  | .asm p :: r, K => (p → asmK r K)
  | .obl _ :: r, K => asmK r K

def decideV (src : Bool) (v : AV) (q : List Orc) (k : AV → List Orc → Prop) : Prop :=
  match src, v with
  | true, .sv (.one (.val (.lit (.bool b)))) => match q with
    | .bool d :: q => b = d ∧ k (blit d) q
    | .br l r :: _ => (b = true → k (blit true) l) ∧ (b = false → k (blit false) r)
    | _ => StuckB b
  | _, v => k v q

def effsK (f : Nat → Bool) : St → List Eff → (St → Prop) → Prop
  | s, [], k => k s
  | s, d :: l, k => match f d.i with
    | true => fSt (s.eff d) fun s => effsK f s l k
    | false => effsK f s l k

theorem effsK_eq (f : Nat → Bool) : ∀ (l : List Eff) (s : St) (k : St → Prop), effsK f s l k = k (effs f s l)
  | [], s, k => rfl
  | d :: l, s, k => by
    rw [effsK, effs]
    cases f d.i with
    | true => show fSt (s.eff d) (fun s => effsK f s l k) = k (effs f (s.eff d) l); rw [fSt_eq, effsK_eq f l]
    | false => exact effsK_eq f l s k

def mkSK (n : Nat) (ms : List Nat) (bls : List (Option Nat × List Nat)) (s0 : St) (ds : List Eff) (i : Nat) (k : St → Prop) : Prop :=
  effsK (fun j => (ms.getD i 0).testBit j) s0 ds fun s => fSt (blotAll s (blotsFor ms bls i (List.range n))) k

theorem mkSK_eq (n : Nat) (ms : List Nat) (bls : List (Option Nat × List Nat)) (s0 : St) (ds : List Eff) (i : Nat) (k : St → Prop) : mkSK n ms bls s0 ds i k = k (mkS n ms bls s0 ds i) := by
  unfold mkSK mkS; rw [effsK_eq, fSt_eq]

def drun (P : Program) (ops : Array Oper) (ms : List Nat) (bls : List (Option Nat × List Nat)) (s0 : St) : List Nat → Nat → List Eff → List Item → List Orc → (List Eff → List Item → List Orc → Prop) → Prop
  | [], n, ds, its, q, k => k ds its q
  | i :: rest, n, ds, its, q, k => match ops[i]? with
    | none => False
    | some o => mkSK ops.size ms bls s0 ds i fun s => match wantedA ops s o with
      | none => StuckGuard s o
      | some false => fNat (n + slots o) fun n' => forceL fId (ds ++ [⟨i, o.dst, .tup [], n, slots o, {}, []⟩]) fun ds => drun P ops ms bls s0 rest n' ds its q k
      | some true => match aop P s o n q with
        | none => StuckOp s o n
        | some (r, it, q') => oblK it (fRes r fun r => decideV (isSrc ops i) r.val q' fun v q'' => fNat (n + slots o) fun n' => forceL fId (its ++ it) fun its => forceL fId (ds ++ [⟨i, o.dst, v, n, slots o, r, it⟩]) fun ds => drun P ops ms bls s0 rest n' ds its q'' k)

/-- which registers and objects each operation may touch -/
def blots (ops : Array Oper) (tids : List (Nat × List Nat)) : List Nat → Nat → List (Option Nat × List Nat)
  | [], _ => []
  | i :: l, n => match ops[i]? with
    | some o => (o.dst, (match tids.lookup i with | some t => t | none => []) ++ List.range' n (slots o)) :: blots ops tids l (n + slots o)
    | none => (none, []) :: blots ops tids l n

def total (ops : Array Oper) : List Nat → Nat
  | [] => 0
  | i :: l => (match ops[i]? with | some o => slots o | none => 0) + total ops l

def optEq : Option Nat → Option Nat → Bool
  | none, none => true
  | some x, some y => Nat.beq x y
  | _, _ => false

def dcheck (ops : Array Oper) (ms : List Nat) (bls : List (Option Nat × List Nat)) (base len : Nat) (ds : List Eff) : Bool :=
  (ds.map (·.i) == List.range ops.size) &&
  (List.range ops.size).all (fun i => (opPreds ops i).all fun p => Nat.blt p i) &&
  ds.all (fun d => optEq (bls.getD d.i (none, [])).1 d.dst && d.obs.all (fun p => (bls.getD d.i (none, [])).2.elem p.1) && d.r.inv.all (fun x => (bls.getD d.i (none, [])).2.elem x) &&
    Nat.ble base d.n && Nat.ble (d.n + d.k) len &&
    ds.all fun e => (Nat.beq d.i e.i || (ms.getD e.i 0).testBit d.i || e.obs.all fun p => Nat.blt p.1 d.n || Nat.ble (d.n + d.k) p.1) && (!(unordB ms d.i e.i) || d.apart e))

end Go.Proofs.Ytamcedjjlokfhaa.Ab
