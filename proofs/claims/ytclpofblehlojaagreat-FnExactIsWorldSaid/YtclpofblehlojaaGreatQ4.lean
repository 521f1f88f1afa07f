/- The abstract machine on which the proofs stand, the data and what reads them, part 4. No condition. -/
import Derived.Test.YtclpofblehlojaaGreatQ3
section
namespace Go.Proofs.YtclpofblehlojaaGreat.Ab
open Go
inductive Hv where
  | s (x : SV)
  | o (x : Ob)
  | a (x : AC)
def hs (l : List Hv) (i : Nat) : SV := match l[i]? with | some (.s x) => x | _ => .one .top
def ho (l : List Hv) (i : Nat) : Ob := match l[i]? with | some (.o x) => x | _ => .free
def ha (l : List Hv) (i : Nat) : AC := match l[i]? with | some (.a x) => x | _ => .top
structure Ct where
  f : FuncId
  o : List Ob
  a : List SV
  o1 : List Ob
  r : AV
abbrev OKP (P : Program) (c : Ct) : Prop := CallOK P c.f c.o c.a c.o1 c.r
def regsS (n : Nat) (l : List (Nat × SV)) : List AV := (List.range n).map fun t => match l.lookup t with | some v => .sv v | none => atop
structure Wy where
  p : Prop
  ex : AEx
  R : List Hv → List (Nat × SV)
  O : List Hv → List Ob
  y : List Hv
instance : Inhabited Wy := ⟨⟨False, .normal, fun _ => [], fun _ => [], []⟩⟩
structure Lp (σ : Type) where
  n : Nat
  m : Nat
  R : List Hv → List (Nat × SV)
  O : List Hv → List Ob
  v : σ → List Hv
  inv : σ → Prop
  meas : σ → Nat
  ways : List Wy
section
variable {σ : Type}
def Lp.T (l : Lp σ) (x : List Hv) : St := ⟨regsS l.n (l.R x), l.O x, l.m⟩
def Lp.W (l : Lp σ) (w : Wy) (x : List Hv) : St := ⟨regsS l.n (w.R x), w.O x, l.m⟩
def Lp.I (l : Lp σ) : Nat → St → Prop := Head (fun k => l.T (l.v k)) l.inv l.meas
def Lp.Y (l : Lp σ) : Ways := l.ways.map fun w => (w.p, w.ex, l.W w w.y)
def Lp.Sem (P : Program) (c : Code) (l : Lp σ) : Prop := LoopSem P c l.I l.Y
def keepR (R : List Hv → List (Nat × SV)) : List Nat := (R []).map fun p => p.1
def nthW : List Wy → Nat → Wy
  | [], _ => default
  | w :: _, 0 => w
  | _ :: r, n + 1 => nthW r n
end
class Row (α : Type) (C : α → List Cell) (F : outParam (α → List Cell)) (n : outParam Nat) : Prop where
  eq : ∀ x, C x = F x
  len : ∀ x, (F x).length = n
theorem row_get {α : Type} [Inhabited α] {C F : α → List Cell} {n : Nat} [Row α C F n] {L : List α} {i : Nat} (h : i < L.length) : (L.map C)[i]? = some (F (L.getD i default)) := by
  rw [← Row.eq (C := C) (F := F)]; simp [h]
inductive Lf (σ : Type) where
  | fn (o : List Ob) (r : AV)
  | lp (l : Lp σ) (k : σ)
inductive Tq (P : Program) (σ : Type) : Type 1 where
  | w (q : Orc) (n : Tq P σ)
  | p (p : Prop) (n : Tq P σ)
  | h (p : Prop) (n : Tq P σ)
  | y (b : Bool) (n : Tq P σ)
  | r (x : Int) (n : Tq P σ)
  | c (ms : List Mode) {K : Ct} (pf : OKP P K) (n : Tq P σ)
  | d (ms : List Mode) (K : Ct) (n : Tq P σ)
  | u (ms : List Mode) (K : Ct) (n : Tq P σ)
  | v {K : Ct} (pf : OKP P K) (n : Tq P σ)
  | b (c : Bool) (x y : Tq P σ)
  | i (p : Prop) [hd : Decidable p] (x y : Tq P σ)
  | x (k : Int) (es : List (List Cell)) (cl : List Cell) (n : Tq P σ)
  | e {α : Type} [hi : Inhabited α] (C : α → List Cell) {F : α → List Cell} {m : Nat} [hr : Row α C F m] (L : List α) (k : Nat) (n : Tq P σ)
  | z {α : Type} (C : α → List Cell) (L : List α) (n : Tq P σ)
  | l {τ : Type} (L : Lp τ) {c : Code} (pf : L.Sem P c) (ids : List Nat) (x : List Hv) (k : τ) (outs : Tq P σ)
  | t (x n : Tq P σ)
  | q
  | f (ids : List Nat) (x : List Ob) (r : AV)
  | s (r : SV)
  | o (i : Nat) (ids : List Nat) (x : List Hv)
  | g (ids : List Nat) (k : σ) (x : List Hv)
section
variable {P : Program} {σ : Type}
def unL : List Orc → Outs
  | [.loop _ _ _ o] => o
  | _ => []
def mkL (o : Outs) : List Orc := [.loop 0 ⟨[], [], 0⟩ (fun _ _ => True) o]
def torc : Tq P σ → (Wy → St) → List Wy → Lf σ → List Orc
  | .w q n, W, ws, lf => q :: torc n W ws lf
  | .p _ n, W, ws, lf => torc n W ws lf
  | .h _ n, W, ws, lf => torc n W ws lf
  | .y b n, W, ws, lf => .bool b :: torc n W ws lf
  | .r _ n, W, ws, lf => torc n W ws lf
  | .c ms (K := K) _ n, W, ws, lf => .call ms K.o1 K.r :: torc n W ws lf
  | .d ms K n, W, ws, lf => .call ms K.o1 K.r :: torc n W ws lf
  | .u ms K n, W, ws, lf => .call ms K.o1 K.r :: torc n W ws lf
  | .v _ n, W, ws, lf => torc n W ws lf
  | .b _ x y, W, ws, lf => [.br (torc x W ws lf) (torc y W ws lf)]
  | @Tq.i _ _ _ _ x y, W, ws, lf => [.br (torc x W ws lf) (torc y W ws lf)]
  | .x _ _ cl n, W, ws, lf => .cells cl :: torc n W ws lf
  | @Tq.e _ _ _ hi _ F _ _ L k n, W, ws, lf => .cells (F (L.getD k (@default _ hi))) :: torc n W ws lf
  | .z _ _ n, W, ws, lf => torc n W ws lf
  | .l L _ ids _ k outs, _, _, lf => [.ghost (.sel ids (keepR L.R)), .loop (L.meas k) (L.T (L.v k)) L.I (unL (torc outs (fun w => L.W w w.y) L.ways lf))]
  | .t x n, W, w :: ws, lf => mkL ((w.p, w.ex, W w, torc x W [] lf) :: unL (torc n W ws lf))
  | .t _ _, _, [], _ => mkL []
  | .q, _, _, _ => mkL []
  | .f ids _ _, _, _, _ => [.fin ids]
  | .s _, _, _, _ => [.fin []]
  | .o i ids _, _, _, .lp L _ => [.ghost (.sel ids (keepR (nthW L.ways i).R)), .out i]
  | .o _ _ _, _, _, _ => []
  | .g ids k _, _, _, .lp L _ => [.ghost (.sel ids (keepR L.R)), .goto (L.meas k) (L.T (L.v k))]
  | .g _ _ _, _, _, _ => []
def treal : Tq P σ → List Wy → Lf σ → Prop
  | .w _ n, ws, lf => treal n ws lf
  | .p p n, ws, lf => p ∧ treal n ws lf
  | .h p n, ws, lf => p → treal n ws lf
  | .y b n, ws, lf => b = b ∧ treal n ws lf
  | .r x n, ws, lf => rng .i64 x ∧ treal n ws lf
  | .c _ (K := K) _ n, ws, lf => CallOK P K.f K.o K.a K.o1 K.r ∧ treal n ws lf
  | .d _ K n, ws, lf => CallOK P K.f K.o K.a K.o1 K.r ∧ treal n ws lf
  | .u _ _ n, ws, lf => treal n ws lf
  | .v (K := K) _ n, ws, lf => CallOK P K.f K.o K.a K.o1 K.r ∧ treal n ws lf
  | .b c x y, ws, lf => (c = true → treal x ws lf) ∧ (c = false → treal y ws lf)
  | @Tq.i _ _ p hd x y, ws, lf => (@decide p hd = true → treal x ws lf) ∧ (@decide p hd = false → treal y ws lf)
  | .x k es cl n, ws, lf => (0 ≤ k ∧ es[k.toNat]? = some cl) ∧ treal n ws lf
  | @Tq.e _ _ _ hi C F _ _ L k n, ws, lf => (0 ≤ (k : Int) ∧ (L.map C)[(k : Int).toNat]? = some (F (L.getD k (@default _ hi)))) ∧ treal n ws lf
  | .z C L n, ws, lf => (L.map C).length ≤ maxLen → treal n ws lf
  | .l L (c := c) _ _ x k outs, _, lf => L.T x = L.T (L.v k) ∧ L.I (L.meas k) (L.T (L.v k)) ∧ LoopSem P c L.I L.Y ∧ treal outs L.ways lf
  | .t x n, w :: ws, lf => (w.p → treal x [] lf) ∧ treal n ws lf
  | .t _ _, [], _ => True
  | .q, _, _ => True
  | .f _ x r, _, .fn o1 r1 => ObsEq x o1 ∧ r = r1
  | .f _ _ _, _, _ => False
  | .s x, _, .fn o1 r1 => ObsEq [] o1 ∧ .sv x = r1
  | .s _, _, _ => False
  | .o i _ x, _, .lp L _ => (nthW L.ways i).p ∧ L.W (nthW L.ways i) x = L.W (nthW L.ways i) (nthW L.ways i).y
  | .o _ _ _, _, _ => False
  | .g _ k' x, _, .lp L k => L.meas k' < L.meas k ∧ L.T x = L.T (L.v k') ∧ L.I (L.meas k') (L.T (L.v k'))
  | .g _ _ _, _, _ => False
def teasy : Tq P σ → List Wy → Lf σ → Prop
  | .w _ n, ws, lf => teasy n ws lf
  | .p p n, ws, lf => p ∧ teasy n ws lf
  | .h p n, ws, lf => p → teasy n ws lf
  | .y _ n, ws, lf => teasy n ws lf
  | .r x n, ws, lf => rng .i64 x ∧ teasy n ws lf
  | .c _ _ n, ws, lf => teasy n ws lf
  | .d _ K n, ws, lf => OKP P K ∧ teasy n ws lf
  | .u _ _ n, ws, lf => teasy n ws lf
  | .v _ n, ws, lf => teasy n ws lf
  | .b c x y, ws, lf => (c = true → teasy x ws lf) ∧ (c = false → teasy y ws lf)
  | @Tq.i _ _ p _ x y, ws, lf => (p → teasy x ws lf) ∧ (¬ p → teasy y ws lf)
  | .x k es cl n, ws, lf => 0 ≤ k ∧ es[k.toNat]? = some cl ∧ teasy n ws lf
  | @Tq.e _ _ _ _ _ _ _ _ L k n, ws, lf => k < L.length ∧ teasy n ws lf
  | .z _ L n, ws, lf => L.length ≤ 9223372036854775807 → teasy n ws lf
  | .l L _ _ x k outs, _, lf => x = L.v k ∧ L.inv k ∧ teasy outs L.ways lf
  | .t x n, w :: ws, lf => (w.p → teasy x [] lf) ∧ teasy n ws lf
  | .t _ _, [], _ => True
  | .q, _, _ => True
  | .f _ x r, _, .fn o1 r1 => x = o1 ∧ r = r1
  | .f _ _ _, _, _ => False
  | .s x, _, .fn o1 r1 => [] = o1 ∧ .sv x = r1
  | .s _, _, _ => False
  | .o i _ x, _, .lp L _ => (nthW L.ways i).p ∧ x = (nthW L.ways i).y
  | .o _ _ _, _, _ => False
  | .g _ k' x, _, .lp L k => L.meas k' < L.meas k ∧ x = L.v k' ∧ L.inv k'
  | .g _ _ _, _, _ => False
theorem treal_of : ∀ (t : Tq P σ) (ws : List Wy) (lf : Lf σ), teasy t ws lf → treal t ws lf
  | .w _ n, ws, lf, h => treal_of n ws lf h
  | .p _ n, ws, lf, h => ⟨h.1, treal_of n ws lf h.2⟩
  | .h p n, ws, lf, h => fun hp => treal_of n ws lf ((show p → teasy n ws lf from h) hp)
  | .y _ n, ws, lf, h => ⟨rfl, treal_of n ws lf h⟩
  | .r _ n, ws, lf, h => ⟨h.1, treal_of n ws lf h.2⟩
  | .c _ pf n, ws, lf, h => ⟨pf, treal_of n ws lf h⟩
  | .d _ _ n, ws, lf, h => ⟨h.1, treal_of n ws lf h.2⟩
  | .u _ _ n, ws, lf, h => treal_of n ws lf h
  | .v pf n, ws, lf, h => ⟨pf, treal_of n ws lf h⟩
  | .b _ x y, ws, lf, h => ⟨fun e => treal_of x ws lf (h.1 e), fun e => treal_of y ws lf (h.2 e)⟩
  | @Tq.i _ _ p hd x y, ws, lf, h => ⟨fun e => treal_of x ws lf (h.1 (of_decide_eq_true e)), fun e => treal_of y ws lf (h.2 (of_decide_eq_false e))⟩
  | .x _ _ _ n, ws, lf, h => ⟨⟨h.1, h.2.1⟩, treal_of n ws lf h.2.2⟩
  | @Tq.e _ _ _ hi C F _ hr L k n, ws, lf, h => ⟨⟨Int.natCast_nonneg _, @row_get _ hi C F _ hr L k h.1⟩, treal_of n ws lf h.2⟩
  | .z _ L n, ws, lf, h => fun hl => treal_of n ws lf ((show L.length ≤ 9223372036854775807 → teasy n ws lf from h) (by rw [List.length_map] at hl; exact hl))
  | .l L pf _ _ _ outs, _, lf, h => ⟨congrArg L.T h.1, Head.mk h.2.1, pf, treal_of outs L.ways lf h.2.2⟩
  | .t x n, _ :: ws, lf, h => ⟨fun hp => treal_of x [] lf (h.1 hp), treal_of n ws lf h.2⟩
  | .t _ _, [], _, _ => trivial
  | .q, _, _, _ => trivial
  | .f _ _ _, _, .fn _ _, h => h
  | .f _ _ _, _, .lp _ _, h => h
  | .s _, _, .fn _ _, h => h
  | .s _, _, .lp _ _, h => h
  | .o _ _ _, _, .lp L _, h => ⟨h.1, congrArg (L.W _) h.2⟩
  | .o _ _ _, _, .fn _ _, h => h
  | .g _ _ _, _, .lp L _, h => ⟨h.1, congrArg L.T h.2.1, Head.mk h.2.2⟩
  | .g _ _ _, _, .fn _ _, h => h
def noW : Wy → St := fun _ => ⟨[], [], 0⟩
theorem OKP.of (hm : P.follows .mixedOrders = true) {K : Ct} {fn : Func} (hc : ∀ xs w, (callFunc K.f xs).run P w = .ok (.enter K.f xs) w) (hf : P.funcs[K.f]? = some fn) (hb : fn.body = some (fn.body.getD .skip)) (t : Tq P Unit)
    (hr : aexec P (fn.body.getD .skip) (entry K.o K.a fn.ntmps) (torc t noW [] (.fn K.o1 K.r)) (finK P fn.results.toList K.o1 K.r) = treal t [] (.fn K.o1 K.r)) (he : teasy t [] (.fn K.o1 K.r)) : OKP P K :=
  CallOK.intro hm (torc t noW [] (.fn K.o1 K.r)) hc hf hb rfl rfl (by rw [hr]; exact treal_of t _ _ he)
theorem Lp.Sem.of (hm : P.follows .mixedOrders = true) {c : Code} {L : Lp σ} (t : σ → Tq P σ)
    (hr : ∀ k, aexec P c (L.T (L.v k)) (torc (t k) noW [] (.lp L k)) (loopK L.I L.Y (L.meas k)) = treal (t k) [] (.lp L k)) (he : ∀ k, L.inv k → teasy (t k) [] (.lp L k)) : L.Sem P c :=
  LoopSem.intro hm fun _ _ ⟨k, hk, e1, e2⟩ => ⟨torc (t k) noW [] (.lp L k), by rw [e1, e2]; exact (hr k) ▸ treal_of (t k) _ _ (he k hk)⟩
end
end Go.Proofs.YtclpofblehlojaaGreat.Ab
end
