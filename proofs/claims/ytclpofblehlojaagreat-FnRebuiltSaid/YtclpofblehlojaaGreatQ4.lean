/- Part 4 of the machine. No condition. -/
import Derived.Test.YtclpofblehlojaaGreatQ3
set_option linter.unusedVariables false
set_option linter.unusedSimpArgs false
section
namespace Go.Proofs.YtclpofblehlojaaGreat.Ab
open Go Go.MapKept
def kS : MK := ⟨.string, some (.int .i64 0)⟩
def kL : MK := ⟨.string, some (.slice none 0 0)⟩
def Yts : Value -> Int
 | .int _ n => n
 | _ => 0
def Yon : Value -> ByteArray
 | .string s => s
 | _ => ⟨#[]⟩
def mI (g : Int -> Int) : Value -> Option Cell := fun v => some (cI (g (Yts v)))
def mO (g : Int -> Option Int) : Value -> Option Cell := fun v => (g (Yts v)).map cI
def mS (g : ByteArray -> Int) : Value -> Option Cell := fun v => some (cI (g (Yon v)))
def mL (g : ByteArray -> List Int) : Value -> Option Cell := fun v => some (.list ((g (Yon v)).map Yd2))
def mLt (g : ByteArray -> List Int) (s : ByteArray) : Value -> Option Cell := fun v => match decide (Yon v = s) with | true => some .any | false => some (.list ((g (Yon v)).map Yd2))
def Y1cj : Value -> ByteArray × ByteArray
 | .agg cs => match cs.toList with
  | [.string a, .string b] => (a, b)
  | _ => (⟨#[]⟩, ⟨#[]⟩)
 | _ => (⟨#[]⟩, ⟨#[]⟩)
def mP (g : ByteArray × ByteArray -> Int) : Value -> Option Cell := fun v => some (cI (g (Y1cj v)))
def zL : ByteArray -> List Int := fun _ => []
def Yjx {α β : Type} [DecidableEq α] (g : α -> β) (n : α) (x : β) : α -> β := fun m => if m = n then x else g m
theorem Yjr {α β : Type} [DecidableEq α] (g : α -> β) (n : α) (x : β) : Yjx g n x n = x := if_pos rfl
theorem Ymd {α β : Type} [DecidableEq α] (g : α -> β) {n m : α} (x : β) (h : m ≠ n) : Yjx g n x m = g m := if_neg h
theorem Ywv {k : Value} {n : Int} (h : Yfl (.int .i64) k) (hn : k ≠ .int .i64 n) : Yts k ≠ n := by
 cases k <;> simp_all [Yfl, IsKey, Yts]
theorem Ys1 {k : Value} {s : ByteArray} (h : Yfl .string k) (hn : k ≠ .string s) : Yon k ≠ s := by
 cases k <;> simp_all [Yfl, IsKey, Yon]
theorem Y1fq {z : Value} {g : Int -> Int} {n : Int} : Yjy z (mI g) (.int .i64 n) (cI (g n)) := .inl rfl
theorem Y1fs {z : Value} {g : ByteArray -> Int} {s : ByteArray} : Yjy z (mS g) (.string s) (cI (g s)) := .inl rfl
theorem Y1h1 {z : Value} {g : ByteArray -> List Int} {s : ByteArray} : Yjy z (mL g) (.string s) (.list ((g s).map Yd2)) := .inl rfl
theorem Y1f1 {g : Int -> Option Int} {n : Int} : (mO g (.int .i64 n) = some (cI ((g n).getD 0)) /\ (g n).isSome = true) ∨ (mO g (.int .i64 n) = none /\ cI ((g n).getD 0) = normLit (.int .i64 0) /\ (g n).isSome = false) := by
 show ((g n).map cI = _ /\ _) ∨ ((g n).map cI = _ /\ _)
 cases g n with
 | none => exact .inr ⟨rfl, rfl, rfl⟩
 | some x => exact .inl ⟨rfl, rfl⟩
theorem Y1bx {g : Int -> Option Int} {n : Int} : Yjy (.int .i64 0) (mO g) (.int .i64 n) (cI ((g n).getD 0)) := by
 show (g n).map cI = _ ∨ ((g n).map cI = _ /\ _)
 cases g n with
 | none => exact .inr ⟨rfl, rfl⟩
 | some x => exact .inl rfl
theorem Y1hg {g : Int -> Int} {n x : Int} : Yin (.int .i64) (mI g) (mI (Yjx g n x)) (.int .i64 n) (some (cI x)) := by
 refine ⟨?_, fun k hk hn => ?_⟩
 ·simp only [mI, Yts, Yjr]
 ·simp only [mI, Ymd g x (Ywv hk hn)]
theorem Y1ja {g : Int -> Option Int} {n x : Int} : Yin (.int .i64) (mO g) (mO (Yjx g n (some x))) (.int .i64 n) (some (cI x)) := by
 refine ⟨?_, fun k hk hn => ?_⟩
 ·simp only [mO, Yts, Yjr, Option.map_some]
 ·simp only [mO, Ymd g (some x) (Ywv hk hn)]
theorem Y1i1 {g : Int -> Option Int} {n : Int} : Yin (.int .i64) (mO g) (mO (Yjx g n none)) (.int .i64 n) none := by
 refine ⟨?_, fun k hk hn => ?_⟩
 ·simp only [mO, Yts, Yjr, Option.map_none]
 ·simp only [mO, Ymd g none (Ywv hk hn)]
theorem Y1jw {g : ByteArray -> Int} {s : ByteArray} {x : Int} : Yin .string (mS g) (mS (Yjx g s x)) (.string s) (some (cI x)) := by
 refine ⟨?_, fun k hk hn => ?_⟩
 ·simp only [mS, Yon, Yjr]
 ·simp only [mS, Ymd g x (Ys1 hk hn)]
theorem Y1f0 {g : ByteArray -> List Int} {s : ByteArray} : Yin .string (mL g) (mLt g s) (.string s) (some .any) := by
 refine ⟨?_, fun k hk hn => ?_⟩
 ·simp [mLt, Yon]
 ·simp only [mL, mLt, decide_eq_false (Ys1 hk hn)]
theorem Y19z {g : ByteArray -> List Int} {s : ByteArray} {L : List Int} {es : List (List Cell)} (h : es = L.map Yd2) : Yin .string (mLt g s) (mL (Yjx g s L)) (.string s) (some (.list es)) := by
 subst h
 refine ⟨?_, fun k hk hn => ?_⟩
 ·simp only [mL, Yon, Yjr]
 ·simp only [mL, mLt, decide_eq_false (Ys1 hk hn), Ymd g L (Ys1 hk hn)]
theorem Y1ce {t : TypeId} {k : Value} {a b : ByteArray} (h : Yfl (.array 2 t) k) (hn : k ≠ .agg #[.string a, .string b]) : Y1cj k ≠ (a, b) := by
 obtain ⟨_, c, d, rfl⟩ := h
 intro e
 apply hn
 simp only [Y1cj, Prod.mk.injEq] at e
 rw [e.1, e.2]
theorem Y1g6 {z : Value} {g : ByteArray × ByteArray -> Int} {a b : ByteArray} : Yjy z (mP g) (.agg #[.string a, .string b]) (cI (g (a, b))) := .inl rfl
theorem Y1jo {t : TypeId} {g : ByteArray × ByteArray -> Int} {a b : ByteArray} {x : Int} : Yin (.array 2 t) (mP g) (mP (Yjx g (a, b) x)) (.agg #[.string a, .string b]) (some (cI x)) := by
 refine ⟨?_, fun k hk hn => ?_⟩
 ·show some (cI (Yjx g (a, b) x (a, b))) = _
  rw [Yjr]
 ·simp only [mP, Ymd g x (Y1ce hk hn)]
end Go.Proofs.YtclpofblehlojaaGreat.Ab
end
section
namespace Go.Proofs.YtclpofblehlojaaGreat.Ab
open Go
inductive Hv where
 | s (x : SV)
 | o (x : Ob)
 | a (x : AC)
def hs (l : List Hv) (i : Nat) : SV := match l[i]? with | some (.s x) => x | _ => .one .top
def ho (l : List Hv) (i : Nat) : Ob := match l[i]? with | some (.o x) => x | _ => .free
def ha (l : List Hv) (i : Nat) : AC := match l[i]? with | some (.a x) => x | _ => .top
structure Ct where
 f : FuncId
 o : List Ob
 a : List SV
 o1 : List Ob
 r : AV
abbrev OKP (P : Program) (c : Ct) : Prop := Ygd P c.f c.o c.a c.o1 c.r
def Y1ey (n : Nat) (l : List (Nat × SV)) : List AV := (List.range n).map fun t => match l.lookup t with | some v => .sv v | none => Yk6
structure Wy where
 p : Prop
 ex : AEx
 R : List Hv -> List (Nat × SV)
 O : List Hv -> List Ob
 y : List Hv
instance : Inhabited Wy := ⟨⟨False, .normal, fun _ => [], fun _ => [], []⟩⟩
structure Lp (σ : Type) where
 n : Nat
 m : Nat
 R : List Hv -> List (Nat × SV)
 O : List Hv -> List Ob
 v : σ -> List Hv
 inv : σ -> Prop
 meas : σ -> Nat
 ways : List Wy
section
variable {σ : Type}
def Lp.T (l : Lp σ) (x : List Hv) : St := ⟨Y1ey l.n (l.R x), l.O x, l.m⟩
def Lp.W (l : Lp σ) (w : Wy) (x : List Hv) : St := ⟨Y1ey l.n (w.R x), w.O x, l.m⟩
def Lp.I (l : Lp σ) : Nat -> St -> Prop := Yzu (fun k => l.T (l.v k)) l.inv l.meas
def Lp.Y (l : Lp σ) : Ywi := l.ways.map fun w => (w.p, w.ex, l.W w w.y)
def Lp.Sem (P : Program) (c : Code) (l : Lp σ) : Prop := Ykl P c l.I l.Y
def Y16m (R : List Hv -> List (Nat × SV)) : List Nat := (R []).map fun p => p.1
def Ydb : List Wy -> Nat -> Wy
 | [], _ => default
 | w :: _, 0 => w
 | _ :: r, n + 1 => Ydb r n
end
class Row (α : Type) (C : α -> List Cell) (F : outParam (α -> List Cell)) (n : outParam Nat) : Prop where
 eq : ∀ x, C x = F x
 len : ∀ x, (F x).length = n
theorem Y1g3 {α : Type} [Inhabited α] {C F : α -> List Cell} {n : Nat} [Row α C F n] {L : List α} {i : Nat} (h : i < L.length) : (L.map C)[i]? = some (F (L.getD i default)) := by
 rw [<- Row.eq (C := C) (F := F)]; simp [h]
inductive Lf (σ : Type) where
 | fn (o : List Ob) (r : AV)
 | lp (l : Lp σ) (k : σ)
inductive Tq (P : Program) (σ : Type) : Type 1 where
 | w (q : Orc) (n : Tq P σ)
 | p (p : Prop) (n : Tq P σ)
 | h (p : Prop) (n : Tq P σ)
 | y (b : Bool) (n : Tq P σ)
 | r (x : Int) (n : Tq P σ)
 | c (ms : List Mode) {K : Ct} (pf : OKP P K) (n : Tq P σ)
 | d (ms : List Mode) (K : Ct) (n : Tq P σ)
 | u (ms : List Mode) (K : Ct) (n : Tq P σ)
 | v {K : Ct} (pf : OKP P K) (n : Tq P σ)
 | b (c : Bool) (x y : Tq P σ)
 | i (p : Prop) [hd : Decidable p] (x y : Tq P σ)
 | x (k : Int) (es : List (List Cell)) (cl : List Cell) (n : Tq P σ)
 | e {α : Type} [hi : Inhabited α] (C : α -> List Cell) {F : α -> List Cell} {m : Nat} [hr : Row α C F m] (L : List α) (k : Nat) (n : Tq P σ)
 | z {α : Type} (C : α -> List Cell) (L : List α) (n : Tq P σ)
 | l {τ : Type} (L : Lp τ) {c : Code} (pf : L.Sem P c) (ids : List Nat) (x : List Hv) (k : τ) (outs : Tq P σ)
 | t (x n : Tq P σ)
 | q
 | f (ids : List Nat) (x : List Ob) (r : AV)
 | s (r : SV)
 | o (i : Nat) (ids : List Nat) (x : List Hv)
 | g (ids : List Nat) (k : σ) (x : List Hv)
section
variable {P : Program} {σ : Type}
def unL : List Orc -> Ywf
 | [.loop _ _ _ o] => o
 | _ => []
def mkL (o : Ywf) : List Orc := [.loop 0 ⟨[], [], 0⟩ (fun _ _ => True) o]
def Yga : Tq P σ -> (Wy -> St) -> List Wy -> Lf σ -> List Orc
 | .w q n, W, ws, lf => q :: Yga n W ws lf
 | .p _ n, W, ws, lf => Yga n W ws lf
 | .h _ n, W, ws, lf => Yga n W ws lf
 | .y b n, W, ws, lf => .bool b :: Yga n W ws lf
 | .r _ n, W, ws, lf => Yga n W ws lf
 | .c ms (K := K) _ n, W, ws, lf => .call ms K.o1 K.r :: Yga n W ws lf
 | .d ms K n, W, ws, lf => .call ms K.o1 K.r :: Yga n W ws lf
 | .u ms K n, W, ws, lf => .call ms K.o1 K.r :: Yga n W ws lf
 | .v _ n, W, ws, lf => Yga n W ws lf
 | .b _ x y, W, ws, lf => [.br (Yga x W ws lf) (Yga y W ws lf)]
 | @Tq.i _ _ _ _ x y, W, ws, lf => [.br (Yga x W ws lf) (Yga y W ws lf)]
 | .x _ _ cl n, W, ws, lf => .cells cl :: Yga n W ws lf
 | @Tq.e _ _ _ hi _ F _ _ L k n, W, ws, lf => .cells (F (L.getD k (@default _ hi))) :: Yga n W ws lf
 | .z _ _ n, W, ws, lf => Yga n W ws lf
 | .l L _ ids _ k outs, _, _, lf => [.ghost (.sel ids (Y16m L.R)), .loop (L.meas k) (L.T (L.v k)) L.I (unL (Yga outs (fun w => L.W w w.y) L.ways lf))]
 | .t x n, W, w :: ws, lf => mkL ((w.p, w.ex, W w, Yga x W [] lf) :: unL (Yga n W ws lf))
 | .t _ _, _, [], _ => mkL []
 | .q, _, _, _ => mkL []
 | .f ids _ _, _, _, _ => [.fin ids]
 | .s _, _, _, _ => [.fin []]
 | .o i ids _, _, _, .lp L _ => [.ghost (.sel ids (Y16m (Ydb L.ways i).R)), .out i]
 | .o _ _ _, _, _, _ => []
 | .g ids k _, _, _, .lp L _ => [.ghost (.sel ids (Y16m L.R)), .goto (L.meas k) (L.T (L.v k))]
 | .g _ _ _, _, _, _ => []
def Yfm : Tq P σ -> List Wy -> Lf σ -> Prop
 | .w _ n, ws, lf => Yfm n ws lf
 | .p p n, ws, lf => p /\ Yfm n ws lf
 | .h p n, ws, lf => p -> Yfm n ws lf
 | .y b n, ws, lf => b = b /\ Yfm n ws lf
 | .r x n, ws, lf => rng .i64 x /\ Yfm n ws lf
 | .c _ (K := K) _ n, ws, lf => Ygd P K.f K.o K.a K.o1 K.r /\ Yfm n ws lf
 | .d _ K n, ws, lf => Ygd P K.f K.o K.a K.o1 K.r /\ Yfm n ws lf
 | .u _ _ n, ws, lf => Yfm n ws lf
 | .v (K := K) _ n, ws, lf => Ygd P K.f K.o K.a K.o1 K.r /\ Yfm n ws lf
 | .b c x y, ws, lf => (c = true -> Yfm x ws lf) /\ (c = false -> Yfm y ws lf)
 | @Tq.i _ _ p hd x y, ws, lf => (@decide p hd = true -> Yfm x ws lf) /\ (@decide p hd = false -> Yfm y ws lf)
 | .x k es cl n, ws, lf => (0 <= k /\ es[k.toNat]? = some cl) /\ Yfm n ws lf
 | @Tq.e _ _ _ hi C F _ _ L k n, ws, lf => (0 <= (k : Int) /\ (L.map C)[(k : Int).toNat]? = some (F (L.getD k (@default _ hi)))) /\ Yfm n ws lf
 | .z C L n, ws, lf => (L.map C).length <= maxLen -> Yfm n ws lf
 | .l L (c := c) _ _ x k outs, _, lf => L.T x = L.T (L.v k) /\ L.I (L.meas k) (L.T (L.v k)) /\ Ykl P c L.I L.Y /\ Yfm outs L.ways lf
 | .t x n, w :: ws, lf => (w.p -> Yfm x [] lf) /\ Yfm n ws lf
 | .t _ _, [], _ => True
 | .q, _, _ => True
 | .f _ x r, _, .fn o1 r1 => Yrw x o1 /\ r = r1
 | .f _ _ _, _, _ => False
 | .s x, _, .fn o1 r1 => Yrw [] o1 /\ .sv x = r1
 | .s _, _, _ => False
 | .o i _ x, _, .lp L _ => (Ydb L.ways i).p /\ L.W (Ydb L.ways i) x = L.W (Ydb L.ways i) (Ydb L.ways i).y
 | .o _ _ _, _, _ => False
 | .g _ k' x, _, .lp L k => L.meas k' < L.meas k /\ L.T x = L.T (L.v k') /\ L.I (L.meas k') (L.T (L.v k'))
 | .g _ _ _, _, _ => False
def Yd3 : Tq P σ -> List Wy -> Lf σ -> Prop
 | .w _ n, ws, lf => Yd3 n ws lf
 | .p p n, ws, lf => p /\ Yd3 n ws lf
 | .h p n, ws, lf => p -> Yd3 n ws lf
 | .y _ n, ws, lf => Yd3 n ws lf
 | .r x n, ws, lf => rng .i64 x /\ Yd3 n ws lf
 | .c _ _ n, ws, lf => Yd3 n ws lf
 | .d _ K n, ws, lf => OKP P K /\ Yd3 n ws lf
 | .u _ _ n, ws, lf => Yd3 n ws lf
 | .v _ n, ws, lf => Yd3 n ws lf
 | .b c x y, ws, lf => (c = true -> Yd3 x ws lf) /\ (c = false -> Yd3 y ws lf)
 | @Tq.i _ _ p _ x y, ws, lf => (p -> Yd3 x ws lf) /\ (¬ p -> Yd3 y ws lf)
 | .x k es cl n, ws, lf => 0 <= k /\ es[k.toNat]? = some cl /\ Yd3 n ws lf
 | @Tq.e _ _ _ _ _ _ _ _ L k n, ws, lf => k < L.length /\ Yd3 n ws lf
 | .z _ L n, ws, lf => L.length <= 9223372036854775807 -> Yd3 n ws lf
 | .l L _ _ x k outs, _, lf => x = L.v k /\ L.inv k /\ Yd3 outs L.ways lf
 | .t x n, w :: ws, lf => (w.p -> Yd3 x [] lf) /\ Yd3 n ws lf
 | .t _ _, [], _ => True
 | .q, _, _ => True
 | .f _ x r, _, .fn o1 r1 => x = o1 /\ r = r1
 | .f _ _ _, _, _ => False
 | .s x, _, .fn o1 r1 => [] = o1 /\ .sv x = r1
 | .s _, _, _ => False
 | .o i _ x, _, .lp L _ => (Ydb L.ways i).p /\ x = (Ydb L.ways i).y
 | .o _ _ _, _, _ => False
 | .g _ k' x, _, .lp L k => L.meas k' < L.meas k /\ x = L.v k' /\ L.inv k'
 | .g _ _ _, _, _ => False
theorem Yel : ∀ (t : Tq P σ) (ws : List Wy) (lf : Lf σ), Yd3 t ws lf -> Yfm t ws lf
 | .w _ n, ws, lf, h => Yel n ws lf h
 | .p _ n, ws, lf, h => ⟨h.1, Yel n ws lf h.2⟩
 | .h p n, ws, lf, h => fun hp => Yel n ws lf ((show p -> Yd3 n ws lf from h) hp)
 | .y _ n, ws, lf, h => ⟨rfl, Yel n ws lf h⟩
 | .r _ n, ws, lf, h => ⟨h.1, Yel n ws lf h.2⟩
 | .c _ pf n, ws, lf, h => ⟨pf, Yel n ws lf h⟩
 | .d _ _ n, ws, lf, h => ⟨h.1, Yel n ws lf h.2⟩
 | .u _ _ n, ws, lf, h => Yel n ws lf h
 | .v pf n, ws, lf, h => ⟨pf, Yel n ws lf h⟩
 | .b _ x y, ws, lf, h => ⟨fun e => Yel x ws lf (h.1 e), fun e => Yel y ws lf (h.2 e)⟩
 | @Tq.i _ _ p hd x y, ws, lf, h => ⟨fun e => Yel x ws lf (h.1 (of_decide_eq_true e)), fun e => Yel y ws lf (h.2 (of_decide_eq_false e))⟩
 | .x _ _ _ n, ws, lf, h => ⟨⟨h.1, h.2.1⟩, Yel n ws lf h.2.2⟩
 | @Tq.e _ _ _ hi C F _ hr L k n, ws, lf, h => ⟨⟨Int.natCast_nonneg _, @Y1g3 _ hi C F _ hr L k h.1⟩, Yel n ws lf h.2⟩
 | .z _ L n, ws, lf, h => fun hl => Yel n ws lf ((show L.length <= 9223372036854775807 -> Yd3 n ws lf from h) (by rw [List.length_map] at hl; exact hl))
 | .l L pf _ _ _ outs, _, lf, h => ⟨congrArg L.T h.1, Yzu.mk h.2.1, pf, Yel outs L.ways lf h.2.2⟩
 | .t x n, _ :: ws, lf, h => ⟨fun hp => Yel x [] lf (h.1 hp), Yel n ws lf h.2⟩
 | .t _ _, [], _, _ => trivial
 | .q, _, _, _ => trivial
 | .f _ _ _, _, .fn _ _, h => h
 | .f _ _ _, _, .lp _ _, h => h
 | .s _, _, .fn _ _, h => h
 | .s _, _, .lp _ _, h => h
 | .o _ _ _, _, .lp L _, h => ⟨h.1, congrArg (L.W _) h.2⟩
 | .o _ _ _, _, .fn _ _, h => h
 | .g _ _ _, _, .lp L _, h => ⟨h.1, congrArg L.T h.2.1, Yzu.mk h.2.2⟩
 | .g _ _ _, _, .fn _ _, h => h
def noW : Wy -> St := fun _ => ⟨[], [], 0⟩
theorem OKP.of (hm : P.follows .mixedOrders = true) {K : Ct} {fn : Func} (hc : ∀ xs w, (callFunc K.f xs).run P w = .ok (.enter K.f xs) w) (hf : P.funcs[K.f]? = some fn) (hb : fn.body = some (fn.body.getD .skip)) (t : Tq P Unit)
  (hr : Yhd P (fn.body.getD .skip) (Yrx K.o K.a fn.ntmps) (Yga t noW [] (.fn K.o1 K.r)) (Y1bm P fn.results.toList K.o1 K.r) = Yfm t [] (.fn K.o1 K.r)) (he : Yd3 t [] (.fn K.o1 K.r)) : OKP P K :=
 Ygd.intro hm (Yga t noW [] (.fn K.o1 K.r)) hc hf hb rfl rfl (by rw [hr]; exact Yel t _ _ he)
theorem Lp.Sem.of (hm : P.follows .mixedOrders = true) {c : Code} {L : Lp σ} (t : σ -> Tq P σ)
  (hr : ∀ k, Yhd P c (L.T (L.v k)) (Yga (t k) noW [] (.lp L k)) (Y17z L.I L.Y (L.meas k)) = Yfm (t k) [] (.lp L k)) (he : ∀ k, L.inv k -> Yd3 (t k) [] (.lp L k)) : L.Sem P c :=
 Ykl.intro hm fun _ _ ⟨k, hk, e1, e2⟩ => ⟨Yga (t k) noW [] (.lp L k), by rw [e1, e2]; exact (hr k) ▸ Yel (t k) _ _ (he k hk)⟩
end
end Go.Proofs.YtclpofblehlojaaGreat.Ab
end
