/- Part 4 of the machine. No condition. -/
import Derived.Test.YtpnaoendfpaodaaGreatQ3
import Derived.Test.YtpnaoendfpaodaaGreatRows
import Derived.ChangeStays
import Derived.ChangeOld
import Derived.Deep.Slices
set_option linter.unusedVariables false
set_option linter.unusedSimpArgs false
section
namespace Go.Proofs.YtpnaoendfpaodaaGreat
open Go Ab
theorem wide : Tryz.prog.follows .mixedOrders = true := by kernel_rfl
abbrev OK (c : Ct) : Prop := OKP Tryz.prog c
instance : CoeSort Ct Prop := ⟨OK⟩
instance : Coe Ct Prop := ⟨OK⟩
theorem Yhv {K : Ct} {fn : Func} (hc : ∀ xs w, (callFunc K.f xs).run Tryz.prog w = .ok (.enter K.f xs) w) (hf : Tryz.prog.funcs[K.f]? = some fn) (t : Tq Tryz.prog Unit) (he : Yhj t [] (.fn K.o1 K.r))
  (hb : fn.body = some (fn.body.getD .skip) := by kernel_rfl) (hr : Ylt Tryz.prog (fn.body.getD .skip) (Yvx K.o K.a fn.ntmps) (Yl2 t noW [] (.fn K.o1 K.r)) (Y1f4 Tryz.prog fn.results.toList K.o1 K.r) = Ykd t [] (.fn K.o1 K.r) := by kernel_rfl) : OK K :=
 OKP.of wide hc hf hb t hr he
theorem Yi3 {σ : Type} {c : Code} {L : Lp σ} (t : σ -> Tq Tryz.prog σ) (he : ∀ k, L.inv k -> Yhj (t k) [] (.lp L k))
  (hr : ∀ k, Ylt Tryz.prog c (L.T (L.v k)) (Yl2 (t k) noW [] (.lp L k)) (Y1ak L.I L.Y (L.meas k)) = Ykd (t k) [] (.lp L k) := by intro k; kernel_rfl) : L.Sem Tryz.prog c :=
 Lp.Sem.of wide t hr he
theorem Yj4 {α : Type} [Inhabited α] {L : List α} {k : Nat} (h : k < L.length) : L.drop k = L.getD k default :: L.drop (k + 1) := by
 rw [List.drop_eq_getElem_cons h]; simp [h]
theorem Yi2 {α : Type} [Inhabited α] {L : List α} {k : Nat} (h : k < L.length) : L.take (k + 1) = L.take k ++ [L.getD k default] := by
 rw [List.take_succ_eq_append_getElem h]; simp [h]
theorem Yhn {α : Type} [Inhabited α] {L : List α} {k : Nat} (h : k < L.length) : L.getD k default ∈ L := by simp [h]
theorem Y1b1 (s : ByteArray) : s.data.toList.length = s.size := rfl
theorem Y1ah {n : Int} : rng .i64 n ↔ -9223372036854775808 <= n /\ n <= 9223372036854775807 := Y1gj
theorem Y1dm (a b : List Ob) : Yvy a b ↔ a = b := Iff.rfl
theorem mIc {g g' : Int -> Int} (h : g = g') : mI g = mI g' := by rw [h]
theorem mOc {g g' : Int -> Option Int} (h : g = g') : mO g = mO g' := by rw [h]
theorem mSc {g g' : ByteArray -> Int} (h : g = g') : mS g = mS g' := by rw [h]
theorem mLc {g g' : ByteArray -> List Int} (h : g = g') : mL g = mL g' := by rw [h]
theorem Yhl (S : List Int) (n : Int) : S.map Yhh ++ [[cI n]] = (S ++ [n]).map Yhh := by simp [Yhh]
theorem Yhm (S : List ByteArray) (n : ByteArray) : S.map Yr1 ++ [[cS n]] = (S ++ [n]).map Yr1 := by simp [Yr1]
theorem Y1l3 {L : List Int} : ∀ e ∈ L.map Yhh, ∀ c ∈ e, ∃ v, c = Cell.lit v := by
 intro e he c hc
 obtain ⟨x, _, rfl⟩ := List.mem_map.1 he
 rw [List.mem_singleton.1 hc]; exact ⟨_, rfl⟩
theorem Y1lg {L : List ByteArray} : ∀ e ∈ L.map Yr1, ∀ c ∈ e, ∃ v, c = Cell.lit v := by
 intro e he c hc
 obtain ⟨x, _, rfl⟩ := List.mem_map.1 he
 rw [List.mem_singleton.1 hc]; exact ⟨_, rfl⟩
theorem Ykm {α : Type} [Inhabited α] {f : α -> List Cell} {L : List α} {i : Nat} {x : List Cell} (h : i < L.length) (hx : f (L.getD i default) = x) : (L.map f)[i]? = some x := by
 subst hx; simp [h]
theorem Yqd {α : Type} [Inhabited α] {A B : List α} {k : Nat} (h : k < A.length) (hl : A.length = B.length) : A.take (k + 1) = B.take (k + 1) ↔ A.take k = B.take k /\ A.getD k default = B.getD k default := by
 rw [Yi2 h, Yi2 (by omega : k < B.length)]
 constructor
 ·intro e
  have := List.append_inj e (by simp; omega)
  exact ⟨this.1, by simpa using this.2⟩
 ·rintro ⟨e1, e2⟩; rw [e1, e2]
theorem Ykk (a b : ByteArray) : a.data.toList = b.data.toList ↔ a = b := by
 constructor
 ·intro h; cases a; cases b; simp at h; subst h; rfl
 ·intro h; rw [h]
theorem Y1kh (a b : Bool) : AV.sv (lb a) = AV.sv (lb b) ↔ a = b := by simp [lb, vB, cB]
theorem Y1iu (a b : Int) : AV.sv (li a) = AV.sv (li b) ↔ a = b := by simp [li, vI, cI]
theorem Y1kb (a b : ByteArray) : AV.sv (ls a) = AV.sv (ls b) ↔ a = b := by simp [ls, vS, cS]
def Yil {α : Type} [Inhabited α] (L : List α) (k : Nat) : List α := L.take k ++ List.replicate (L.length - k) default
theorem Y19v {α : Type} [Inhabited α] (L : List α) (k : Nat) : (Yil L k).length = L.length := by simp [Yil]; omega
theorem Y16f {α : Type} [Inhabited α] (L : List α) : Yil L 0 = List.replicate L.length default := by simp [Yil]
theorem Yq8 {α : Type} [Inhabited α] (L : List α) {k : Nat} (h : L.length <= k) : Yil L k = L := by simp [Yil, List.take_of_length_le h, Nat.sub_eq_zero_of_le h]
theorem Y1ab {α : Type} [Inhabited α] {L : List α} {k : Nat} (h : k < L.length) : (Yil L k).set k (L.getD k default) = Yil L (k + 1) := by
 unfold Yil
 rw [Yi2 h, show L.length - k = L.length - (k + 1) + 1 by omega, List.replicate_succ, List.set_append_right _ _ (by simp; omega)]
 have : k - (List.take k L).length = 0 := by simp; omega
 rw [this]; simp
theorem Y1bd {α : Type} [Inhabited α] {f : α -> List Cell} {L : List α} {k : Nat} {c : List Cell} (h : k < L.length) (hx : f (L.getD k default) = c) :
  ((Yil L k).map f).set k c = (Yil L (k + 1)).map f := by
 subst hx; rw [<- List.map_set, Y1ab h]
theorem Y1bl {α : Type} [Inhabited α] {f : α -> List Cell} {L : List α} {c : List Cell} (hx : f default = c) : List.replicate L.length c = (Yil L 0).map f := by
 subst hx; simp [Y16f]
def Y1ma (n : Int) : List Cell := [cI n]
def Y1m8 (n : ByteArray) : List Cell := [cS n]
instance : Row Int Yhh Y1ma 1 := ⟨fun _ => rfl, fun _ => rfl⟩
instance : Row ByteArray Yr1 Y1m8 1 := ⟨fun _ => rfl, fun _ => rfl⟩
section
variable {α : Type} {C F : α -> List Cell} {n : Nat}
theorem Yjw [Row α C F n] [Inhabited α] {L : List α} {i : Nat} (h : i < L.length) : (L.map C)[i]? = some (F (L.getD i default)) := Ykm h (Row.eq _)
theorem Yhi [Row α C F n] (L : List α) (x : α) : L.map C ++ [F x] = (L ++ [x]).map C := by simp [Row.eq (C := C) (F := F)]
theorem Y1hj [Row α C F n] {L : List α} : ∀ e ∈ L.map C, e.length = n := by
 intro e he
 obtain ⟨x, _, rfl⟩ := List.mem_map.1 he; rw [Row.eq (C := C) (F := F)]; exact Row.len (C := C) x
end
def mkS (l : List UInt8) : ByteArray := ⟨l.toArray⟩
theorem Y1aq (l : List UInt8) : ByteArray.mk l.toArray = mkS l := rfl
theorem Y1jb (l : List UInt8) : (mkS l).data.toList = l := rfl
theorem Y1id (a b : List UInt8) : mkS a = mkS b ↔ a = b := by
 constructor
 ·intro h; have := congrArg (fun s : ByteArray => s.data.toList) h; simpa [mkS] using this
 ·intro h; rw [h]
theorem Y1e9 (l : List UInt8) : (mkS l).size = l.length := rfl
theorem std : (∀ s : ByteArray, s.data.toList.length = s.size) /\ (∀ {α β : Type} (f : α -> β) (L : List α), (L.map f).length = L.length) /\ (∀ n : Nat, (n : Int).toNat = n) /\
  (∀ n : Int, rng .i64 n ↔ -9223372036854775808 <= n /\ n <= 9223372036854775807) /\ (∀ a b : List Ob, Yvy a b ↔ a = b) /\ (∀ {α : Type} (a b : List α), (a ++ b).length = a.length + b.length) /\
  (∀ {α : Type} (n : Nat) (a : α), (List.replicate n a).length = n) /\ (∀ {α : Type} [Inhabited α] (L : List α) (k : Nat), (Yil L k).length = L.length) /\ (∀ (p : Prop) [Decidable p], (decide p = true) = p) /\
  (∀ (p : Prop) [Decidable p], (decide p = false) = ¬ p) /\ (∀ {α : Type} (a b : α), (a ≠ b) = ¬ a = b) /\ (∀ a b : Bool, (AV.sv (lb a) = AV.sv (lb b)) ↔ a = b) /\ (∀ a b : Int, (AV.sv (li a) = AV.sv (li b)) ↔ a = b) /\
  (∀ a b : ByteArray, (AV.sv (ls a) = AV.sv (ls b)) ↔ a = b) /\ (∀ l : List UInt8, ByteArray.mk l.toArray = mkS l) /\ (∀ l : List UInt8, (mkS l).data.toList = l) /\ (∀ a b : List UInt8, mkS a = mkS b ↔ a = b) /\
  (∀ l : List UInt8, (mkS l).size = l.length) /\ (∀ {α β : Type} (f : α -> β) (L : List α) (n : Nat), (L.map f).take n = (L.take n).map f) /\ (∀ {α β : Type} (f : α -> β) (L : List α) (n : Nat), (L.map f).drop n = (L.drop n).map f) /\
  (∀ n : Nat, n - 0 = n) /\ (∀ {α : Type} (L : List α), L.drop 0 = L) :=
 ⟨Y1b1, fun _ _ => List.length_map _, Int.toNat_natCast, @Y1ah, Y1dm, fun _ _ => List.length_append, fun _ _ => List.length_replicate, Y19v, @decide_eq_true_eq, fun p _ => propext (decide_eq_false_iff_not (p := p)), fun a b => rfl, Y1kh, Y1iu, Y1kb, Y1aq, Y1jb, Y1id, Y1e9, fun _ _ _ => List.map_take.symm, fun _ _ _ => List.map_drop.symm, Nat.sub_zero, fun _ => List.drop_zero⟩
theorem inj : (∀ a b : SV, (AV.sv a = AV.sv b) = (a = b)) /\ (∀ l m : List SV, (AV.tup l = AV.tup m) = (l = m)) /\ (∀ l m : List AC, (SV.agg l = SV.agg m) = (l = m)) /\
  (∀ a b : AC, (SV.one a = SV.one b) = (a = b)) /\ (∀ a b : Int, (li a = li b) = (a = b)) /\ (∀ a b : Bool, (lb a = lb b) = (a = b)) /\ (∀ a b : ByteArray, (ls a = ls b) = (a = b)) /\
  (∀ a b : List (List Cell), (ll a = ll b) = (a = b)) /\ (∀ a b : Int, (vI a = vI b) = (a = b)) /\ (∀ a b : Bool, (vB a = vB b) = (a = b)) /\ (∀ a b : ByteArray, (vS a = vS b) = (a = b)) /\ (∀ a b : List (List Cell), (vL a = vL b) = (a = b)) /\
  (∀ o z x y, (Ob.arr o z x = Ob.arr o z y) = (x = y)) /\ (∀ l m, (Ob.box l = Ob.box m) = (l = m)) /\ (∀ (a b : AC) l m, (a :: l = b :: m) = (a = b /\ l = m)) /\ (∀ (a b : SV) l m, (a :: l = b :: m) = (a = b /\ l = m)) /\ (∀ (a b : Ob) l m, (a :: l = b :: m) = (a = b /\ l = m)) /\
  (∀ (a b : Hv) l m, (a :: l = b :: m) = (a = b /\ l = m)) /\ (∀ a b, (Hv.s a = Hv.s b) = (a = b)) /\ (∀ a b, (Hv.o a = Hv.o b) = (a = b)) /\ (∀ a b, (Hv.a a = Hv.a b) = (a = b)) := by
 refine ⟨?_, ?_, ?_, ?_, ?_, ?_, ?_, ?_, ?_, ?_, ?_, ?_, ?_, ?_, ?_, ?_, ?_, ?_, ?_, ?_, ?_⟩ <;> intros <;> (try apply propext) <;> simp [li, lb, ls, ll, vI, vB, vS, vL, cI, cB, cS]
theorem dT {p : Prop} [Decidable p] (h : p) : true = decide p := (decide_eq_true h).symm
theorem dF {p : Prop} [Decidable p] (h : ¬ p) : false = decide p := (decide_eq_false h).symm
theorem z {p : Prop} (h : p := by first | with_reducible rfl | omega | assumption | exact dT ‹_› | exact dF ‹_› | ((first | refine Yjw ?_ | refine Ykm ?_ rfl); (first | omega | (simp only [std]; omega) | grind))) : p := h
theorem zR {p : Prop} (h : p := by first | exact Y1l3 | exact Y1lg | exact Y1hj) : p := h
theorem zM {p : Prop} (h : p := by first | exact Y1gp | exact Y1gg | exact Y1fj | exact Y1ia | exact Y1hc | exact Y1iv | exact Y1k5 | exact Y1jg | exact Y1in | exact Y1i9 | (refine Y1b7 ?_; grind)) : p := h
theorem zF {p : Prop} (h : p := by first | (refine Y1bd ?_ ?_; (first | omega | (simp only [std]; omega) | grind); (first | rfl | exact (Row.eq _).trans rfl)) | (refine Y1bl ?_; (first | rfl | exact (Row.eq _).trans rfl))) : p := h
end Go.Proofs.YtpnaoendfpaodaaGreat
end
section
namespace Go.Proofs.YtpnaoendfpaodaaGreat
open Go Ab
def Yhe {α : Type} (f : α -> Nat) : List α -> Nat
 | [] => 0
 | x :: r => f x + Yhe f r
theorem Ykw {α : Type} (f : α -> Nat) : ∀ (a b : List α), Yhe f (a ++ b) = Yhe f a + Yhe f b
 | [], b => by simp [Yhe]
 | x :: a, b => by simp only [List.cons_append, Yhe, Ykw f a b]; omega
theorem Yyo {α : Type} [Inhabited α] (f : α -> Nat) {L : List α} {k : Nat} (h : k < L.length) : Yhe f (L.drop k) = f (L.getD k default) + Yhe f (L.drop (k + 1)) := by
 rw [Yj4 h, Yhe]
theorem Yi9 {α : Type} (f : α -> Nat) : ∀ {L : List α} {x : α}, x ∈ L -> f x <= Yhe f L
 | y :: r, x, h => by
  rcases List.mem_cons.1 h with rfl | h
  ·simp only [Yhe]; omega
  ·have := Yi9 f h; simp only [Yhe]; omega
theorem Yj3 {α : Type} [Inhabited α] (c : α -> Nat) {L : List α} {i : Nat} (h : i < L.length) : Yhe c (L.take (i + 1)) = Yhe c (L.take i) + c (L.getD i default) := by
 rw [Yi2 h, Ykw]; simp [Yhe]
theorem Yiw {α : Type} (c : α -> Nat) (L : List α) (i : Nat) : Yhe c (L.take i) <= Yhe c L := by
 have := Ykw c (L.take i) (L.drop i)
 rw [List.take_append_drop] at this; omega
def wS (L : List ByteArray) : Nat := L.length + Yhe ByteArray.size L
theorem Ync {α β : Type} [Inhabited β] (f : α -> β -> α) (a : α) {L : List β} {k : Nat} (h : k < L.length) : (L.take (k + 1)).foldl f a = f ((L.take k).foldl f a) (L.getD k default) := by
 rw [Yi2 h, List.foldl_append]; rfl
structure Datum where
 kind : Int
 number : Int
 text : ByteArray
 items : List Datum
instance : Inhabited Datum := ⟨⟨0, 0, .empty, []⟩⟩
mutual
def Ynq : Datum -> List Cell
 | ⟨kind', number', text', items'⟩ => [cI kind', cI number', cS text', .list (Ysb items')]
def Ysb : List Datum -> List (List Cell)
 | [] => []
 | x :: r => Ynq x :: Ysb r
end
theorem Ywe : ∀ l : List Datum, Ysb l = l.map Ynq
 | [] => by rw [Ysb]; rfl
 | x :: r => by rw [Ysb, Ywe r]; rfl
def Y166 (x : Datum) : List Cell := [cI x.kind, cI x.number, cS x.text, .list (x.items.map Ynq)]
theorem Y1dc (x : Datum) : Ynq x = Y166 x := by cases x; simp only [Ynq, Y166, Ywe]
mutual
def Yzi : Datum -> Datum -> Bool
 | ⟨kind1, number1, text1, items1⟩, ⟨kind2, number2, text2, items2⟩ => decide (kind1 = kind2) && decide (number1 = number2) && decide (text1 = text2) && Ynz items1 items2
def Ynz : List Datum -> List Datum -> Bool
 | [], [] => true
 | x :: r, y :: t => Yzi x y && Ynz r t
 | _, _ => false
end
mutual
theorem Yw8 : ∀ a b : Datum, Yzi a b = true ↔ a = b
 | ⟨kind1, number1, text1, items1⟩, ⟨kind2, number2, text2, items2⟩ => by rw [Yzi]; simp only [Bool.and_eq_true, decide_eq_true_eq, Yvc items1 items2, Datum.mk.injEq, and_assoc]
theorem Yvc : ∀ a b : List Datum, Ynz a b = true ↔ a = b
 | [], [] => by simp [Ynz]
 | [], _ :: _ => by simp [Ynz]
 | _ :: _, [] => by simp [Ynz]
 | x :: r, y :: t => by rw [Ynz, Bool.and_eq_true, Yw8 x y, Yvc r t, List.cons.injEq]
end
instance : DecidableEq Datum := fun a b => decidable_of_iff _ (Yw8 a b)
mutual
theorem Datum.ind {P : Datum -> Prop} (h : ∀ x, (∀ y ∈ x.items, P y) -> P x) : ∀ x, P x
 | ⟨kind', number', text', items'⟩ => h _ (fun y hy => Datum.inds h items' y hy)
theorem Datum.inds {P : Datum -> Prop} (h : ∀ x, (∀ y ∈ x.items, P y) -> P x) : ∀ (l : List Datum), ∀ y ∈ l, P y
 | [], y, hy => by cases hy
 | x :: r, y, hy => (List.mem_cons.1 hy).elim (fun e => e ▸ Datum.ind h x) (fun hy => Datum.inds h r y hy)
end
instance : Row Datum Ynq Y166 4 := ⟨Y1dc, fun _ => rfl⟩
structure Core where
 kind : Int
 number : Int
 params : List Int
 datum : Datum
 kids : List Core
instance : Inhabited Core := ⟨⟨0, 0, [], (default : Datum), []⟩⟩
mutual
def Yt0 : Core -> List Cell
 | ⟨kind', number', params', datum', kids'⟩ => [cI kind', cI number', .list (params'.map Yhh), cI datum'.kind, cI datum'.number, cS datum'.text, .list (datum'.items.map Ynq), .list (Yuy kids')]
def Yuy : List Core -> List (List Cell)
 | [] => []
 | x :: r => Yt0 x :: Yuy r
end
theorem Yxo : ∀ l : List Core, Yuy l = l.map Yt0
 | [] => by rw [Yuy]; rfl
 | x :: r => by rw [Yuy, Yxo r]; rfl
def Y1ai (x : Core) : List Cell := [cI x.kind, cI x.number, .list (x.params.map Yhh), cI x.datum.kind, cI x.datum.number, cS x.datum.text, .list (x.datum.items.map Ynq), .list (x.kids.map Yt0)]
theorem Y1dw (x : Core) : Yt0 x = Y1ai x := by cases x; simp only [Yt0, Y1ai, Yxo]
mutual
def Y13q : Core -> Core -> Bool
 | ⟨kind1, number1, params1, datum1, kids1⟩, ⟨kind2, number2, params2, datum2, kids2⟩ => decide (kind1 = kind2) && decide (number1 = number2) && decide (params1 = params2) && decide (datum1 = datum2) && Yp0 kids1 kids2
def Yp0 : List Core -> List Core -> Bool
 | [], [] => true
 | x :: r, y :: t => Y13q x y && Yp0 r t
 | _, _ => false
end
mutual
theorem Yxu : ∀ a b : Core, Y13q a b = true ↔ a = b
 | ⟨kind1, number1, params1, datum1, kids1⟩, ⟨kind2, number2, params2, datum2, kids2⟩ => by rw [Y13q]; simp only [Bool.and_eq_true, decide_eq_true_eq, Yw9 kids1 kids2, Core.mk.injEq, and_assoc]
theorem Yw9 : ∀ a b : List Core, Yp0 a b = true ↔ a = b
 | [], [] => by simp [Yp0]
 | [], _ :: _ => by simp [Yp0]
 | _ :: _, [] => by simp [Yp0]
 | x :: r, y :: t => by rw [Yp0, Bool.and_eq_true, Yxu x y, Yw9 r t, List.cons.injEq]
end
instance : DecidableEq Core := fun a b => decidable_of_iff _ (Yxu a b)
mutual
theorem Core.ind {P : Core -> Prop} (h : ∀ x, (∀ y ∈ x.kids, P y) -> P x) : ∀ x, P x
 | ⟨kind', number', params', datum', kids'⟩ => h _ (fun y hy => Core.inds h kids' y hy)
theorem Core.inds {P : Core -> Prop} (h : ∀ x, (∀ y ∈ x.kids, P y) -> P x) : ∀ (l : List Core), ∀ y ∈ l, P y
 | [], y, hy => by cases hy
 | x :: r, y, hy => (List.mem_cons.1 hy).elim (fun e => e ▸ Core.ind h x) (fun hy => Core.inds h r y hy)
end
instance : Row Core Yt0 Y1ai 8 := ⟨Y1dw, fun _ => rfl⟩
structure YS where
 kind : Int
 number : Int
 text : ByteArray
 scopes : List Int
 items : List YS
instance : Inhabited YS := ⟨⟨0, 0, .empty, [], []⟩⟩
mutual
def Yhd : YS -> List Cell
 | ⟨kind', number', text', scopes', items'⟩ => [cI kind', cI number', cS text', .list (scopes'.map Yhh), .list (Yql items')]
def Yql : List YS -> List (List Cell)
 | [] => []
 | x :: r => Yhd x :: Yql r
end
theorem Yul : ∀ l : List YS, Yql l = l.map Yhd
 | [] => by rw [Yql]; rfl
 | x :: r => by rw [Yql, Yul r]; rfl
def Yhk (x : YS) : List Cell := [cI x.kind, cI x.number, cS x.text, .list (x.scopes.map Yhh), .list (x.items.map Yhd)]
theorem Ykr (x : YS) : Yhd x = Yhk x := by cases x; simp only [Yhd, Yhk, Yul]
mutual
def Yx1 : YS -> YS -> Bool
 | ⟨kind1, number1, text1, scopes1, items1⟩, ⟨kind2, number2, text2, scopes2, items2⟩ => decide (kind1 = kind2) && decide (number1 = number2) && decide (text1 = text2) && decide (scopes1 = scopes2) && Yn8 items1 items2
def Yn8 : List YS -> List YS -> Bool
 | [], [] => true
 | x :: r, y :: t => Yx1 x y && Yn8 r t
 | _, _ => false
end
mutual
theorem Yub : ∀ a b : YS, Yx1 a b = true ↔ a = b
 | ⟨kind1, number1, text1, scopes1, items1⟩, ⟨kind2, number2, text2, scopes2, items2⟩ => by rw [Yx1]; simp only [Bool.and_eq_true, decide_eq_true_eq, Yty items1 items2, YS.mk.injEq, and_assoc]
theorem Yty : ∀ a b : List YS, Yn8 a b = true ↔ a = b
 | [], [] => by simp [Yn8]
 | [], _ :: _ => by simp [Yn8]
 | _ :: _, [] => by simp [Yn8]
 | x :: r, y :: t => by rw [Yn8, Bool.and_eq_true, Yub x y, Yty r t, List.cons.injEq]
end
instance : DecidableEq YS := fun a b => decidable_of_iff _ (Yub a b)
mutual
theorem YS.ind {P : YS -> Prop} (h : ∀ x, (∀ y ∈ x.items, P y) -> P x) : ∀ x, P x
 | ⟨kind', number', text', scopes', items'⟩ => h _ (fun y hy => YS.inds h items' y hy)
theorem YS.inds {P : YS -> Prop} (h : ∀ x, (∀ y ∈ x.items, P y) -> P x) : ∀ (l : List YS), ∀ y ∈ l, P y
 | [], y, hy => by cases hy
 | x :: r, y, hy => (List.mem_cons.1 hy).elim (fun e => e ▸ YS.ind h x) (fun hy => YS.inds h r y hy)
end
theorem Y1ct (a b : YS) : a = b ↔ a.kind = b.kind /\ a.number = b.number /\ a.text = b.text /\ a.scopes = b.scopes /\ a.items = b.items := by cases a; cases b; simp only [YS.mk.injEq]
instance : Row YS Yhd Yhk 5 := ⟨Ykr, fun _ => rfl⟩
abbrev Yhz (x : YS) : SV := .agg (vals (Yhk x))
abbrev Yjv (x : YS) (i : Nat) : SV := .agg [vI x.kind, vI x.number, vS x.text, .ref (i + 0), .ref (i + 1)]
abbrev Ykc (x : YS) : List Ob := [.arr true 1 (x.scopes.map Yhh), .arr true 5 (x.items.map Yhd)]
mutual
def wY : YS -> Nat
 | ⟨_, _, text', scopes', items'⟩ => text'.size + scopes'.length + wYs items'
def wYs : List YS -> Nat
 | [] => 0
 | d :: r => 1 + wY d + wYs r
end
theorem Y1b8 : ∀ l, wYs l = l.length + Yhe wY l
 | [] => by simp [wYs, Yhe]
 | d :: r => by rw [wYs, Y1b8 r]; simp only [Yhe, List.length_cons]; omega
theorem Yjc (x : YS) : wY x = x.text.size + x.scopes.length + (x.items.length + Yhe wY x.items) := by cases x; simp only [wY, Y1b8]
structure YB where
 text : ByteArray
 scopes : List Int
 kind : Int
 number : Int
instance : Inhabited YB := ⟨⟨.empty, [], 0, 0⟩⟩
def Yhy (x : YB) : List Cell := [cS x.text, .list (x.scopes.map Yhh), cI x.kind, cI x.number]
def Yhg (x : YB) : List Cell := Yhy x
theorem Ype (x : YB) : Yhg x = Yhy x := rfl
instance : DecidableEq YB := fun a b => by cases a; cases b; rw [YB.mk.injEq]; infer_instance
theorem Y19k (a b : YB) : a = b ↔ a.text = b.text /\ a.scopes = b.scopes /\ a.kind = b.kind /\ a.number = b.number := by cases a; cases b; simp only [YB.mk.injEq]
instance : Row YB Yhg Yhy 4 := ⟨Ype, fun _ => rfl⟩
abbrev Ym7 (x : YB) : SV := .agg (vals (Yhy x))
abbrev Yxd (x : YB) (i : Nat) : SV := .agg [vS x.text, .ref (i + 0), vI x.kind, vI x.number]
abbrev Ywu (x : YB) : List Ob := [.arr true 1 (x.scopes.map Yhh)]
def wB (x : YB) : Nat := x.text.size + x.scopes.length
theorem Ytn (x : YB) : wB x = x.text.size + x.scopes.length := rfl
structure YR where
 literals : List YS
 patterns : List YS
 templates : List YS
instance : Inhabited YR := ⟨⟨[], [], []⟩⟩
def Yiv (x : YR) : List Cell := [.list (x.literals.map Yhd), .list (x.patterns.map Yhd), .list (x.templates.map Yhd)]
def Yhp (x : YR) : List Cell := Yiv x
theorem Yrn (x : YR) : Yhp x = Yiv x := rfl
instance : DecidableEq YR := fun a b => by cases a; cases b; rw [YR.mk.injEq]; infer_instance
theorem Y1ei (a b : YR) : a = b ↔ a.literals = b.literals /\ a.patterns = b.patterns /\ a.templates = b.templates := by cases a; cases b; simp only [YR.mk.injEq]
instance : Row YR Yhp Yiv 3 := ⟨Yrn, fun _ => rfl⟩
abbrev Ymi (x : YR) : SV := .agg (vals (Yiv x))
abbrev Y12z (x : YR) (i : Nat) : SV := .agg [.ref (i + 0), .ref (i + 1), .ref (i + 2)]
abbrev Y15t (x : YR) : List Ob := [.arr true 5 (x.literals.map Yhd), .arr true 5 (x.patterns.map Yhd), .arr true 5 (x.templates.map Yhd)]
def wR (x : YR) : Nat := (x.literals.length + Yhe wY x.literals) + (x.patterns.length + Yhe wY x.patterns) + (x.templates.length + Yhe wY x.templates)
theorem Ynv (x : YR) : wR x = (x.literals.length + Yhe wY x.literals) + (x.patterns.length + Yhe wY x.patterns) + (x.templates.length + Yhe wY x.templates) := rfl
structure YC where
 name : YS
 depth : Int
 form : YS
 each : List YC
instance : Inhabited YC := ⟨⟨(default : YS), 0, (default : YS), []⟩⟩
mutual
def Yhf : YC -> List Cell
 | ⟨name', depth', form', each'⟩ => [cI name'.kind, cI name'.number, cS name'.text, .list (name'.scopes.map Yhh), .list (name'.items.map Yhd), cI depth', cI form'.kind, cI form'.number, cS form'.text, .list (form'.scopes.map Yhh), .list (form'.items.map Yhd), .list (Ypr each')]
def Ypr : List YC -> List (List Cell)
 | [] => []
 | x :: r => Yhf x :: Ypr r
end
theorem Ytx : ∀ l : List YC, Ypr l = l.map Yhf
 | [] => by rw [Ypr]; rfl
 | x :: r => by rw [Ypr, Ytx r]; rfl
def Yi1 (x : YC) : List Cell := [cI x.name.kind, cI x.name.number, cS x.name.text, .list (x.name.scopes.map Yhh), .list (x.name.items.map Yhd), cI x.depth, cI x.form.kind, cI x.form.number, cS x.form.text, .list (x.form.scopes.map Yhh), .list (x.form.items.map Yhd), .list (x.each.map Yhf)]
theorem Ynp (x : YC) : Yhf x = Yi1 x := by cases x; simp only [Yhf, Yi1, Ytx]
mutual
def Yuq : YC -> YC -> Bool
 | ⟨name1, depth1, form1, each1⟩, ⟨name2, depth2, form2, each2⟩ => decide (name1 = name2) && decide (depth1 = depth2) && decide (form1 = form2) && Yme each1 each2
def Yme : List YC -> List YC -> Bool
 | [], [] => true
 | x :: r, y :: t => Yuq x y && Yme r t
 | _, _ => false
end
mutual
theorem Ytw : ∀ a b : YC, Yuq a b = true ↔ a = b
 | ⟨name1, depth1, form1, each1⟩, ⟨name2, depth2, form2, each2⟩ => by rw [Yuq]; simp only [Bool.and_eq_true, decide_eq_true_eq, Ys3 each1 each2, YC.mk.injEq, and_assoc]
theorem Ys3 : ∀ a b : List YC, Yme a b = true ↔ a = b
 | [], [] => by simp [Yme]
 | [], _ :: _ => by simp [Yme]
 | _ :: _, [] => by simp [Yme]
 | x :: r, y :: t => by rw [Yme, Bool.and_eq_true, Ytw x y, Ys3 r t, List.cons.injEq]
end
instance : DecidableEq YC := fun a b => decidable_of_iff _ (Ytw a b)
mutual
theorem YC.ind {P : YC -> Prop} (h : ∀ x, (∀ y ∈ x.each, P y) -> P x) : ∀ x, P x
 | ⟨name', depth', form', each'⟩ => h _ (fun y hy => YC.inds h each' y hy)
theorem YC.inds {P : YC -> Prop} (h : ∀ x, (∀ y ∈ x.each, P y) -> P x) : ∀ (l : List YC), ∀ y ∈ l, P y
 | [], y, hy => by cases hy
 | x :: r, y, hy => (List.mem_cons.1 hy).elim (fun e => e ▸ YC.ind h x) (fun hy => YC.inds h r y hy)
end
instance : Row YC Yhf Yi1 12 := ⟨Ynp, fun _ => rfl⟩
structure YE where
 bindings : List YB
 macros : List YR
 scope : Int
 vari : Int
 steps : Int
instance : Inhabited YE := ⟨⟨[], [], 0, 0, 0⟩⟩
def Ykl (x : YE) : List Cell := [.list (x.bindings.map Yhg), .list (x.macros.map Yhp), cI x.scope, cI x.vari, cI x.steps]
def Y11y (x : YE) : List Cell := Ykl x
theorem Y15r (x : YE) : Y11y x = Ykl x := rfl
instance : DecidableEq YE := fun a b => by cases a; cases b; rw [YE.mk.injEq]; infer_instance
theorem Y16i (a b : YE) : a = b ↔ a.bindings = b.bindings /\ a.macros = b.macros /\ a.scope = b.scope /\ a.vari = b.vari /\ a.steps = b.steps := by cases a; cases b; simp only [YE.mk.injEq]
instance : Row YE Y11y Ykl 5 := ⟨Y15r, fun _ => rfl⟩
abbrev Ykb (x : YE) : SV := .agg (vals (Ykl x))
abbrev Ypn (x : YE) (i : Nat) : SV := .agg [.ref (i + 0), .ref (i + 1), vI x.scope, vI x.vari, vI x.steps]
abbrev Yue (x : YE) : List Ob := [.arr true 4 (x.bindings.map Yhg), .arr true 3 (x.macros.map Yhp)]
def wX (x : YE) : Nat := (x.bindings.length + Yhe wB x.bindings) + (x.macros.length + Yhe wR x.macros)
theorem Ymg (x : YE) : wX x = (x.bindings.length + Yhe wB x.bindings) + (x.macros.length + Yhe wR x.macros) := rfl
structure Module where
 name : ByteArray
 imports : List ByteArray
 exports : List ByteArray
 body : List Datum
instance : Inhabited Module := ⟨⟨.empty, [], [], []⟩⟩
def Yz9 (x : Module) : List Cell := [cS x.name, .list (x.imports.map Yr1), .list (x.exports.map Yr1), .list (x.body.map Ynq)]
def Y18l (x : Module) : List Cell := Yz9 x
theorem Y1a8 (x : Module) : Y18l x = Yz9 x := rfl
instance : DecidableEq Module := fun a b => by cases a; cases b; rw [Module.mk.injEq]; infer_instance
instance : Row Module Y18l Yz9 4 := ⟨Y1a8, fun _ => rfl⟩
structure Export where
 modul : ByteArray
 text : ByteArray
 kind : Int
 number : Int
instance : Inhabited Export := ⟨⟨.empty, .empty, 0, 0⟩⟩
def Yzz (x : Export) : List Cell := [cS x.modul, cS x.text, cI x.kind, cI x.number]
def Y10f (x : Export) : List Cell := Yzz x
theorem Y1an (x : Export) : Y10f x = Yzz x := rfl
instance : DecidableEq Export := fun a b => by cases a; cases b; rw [Export.mk.injEq]; infer_instance
instance : Row Export Y10f Yzz 4 := ⟨Y1an, fun _ => rfl⟩
structure Unit where
 name : ByteArray
 globals : List Int
 body : Core
instance : Inhabited Unit := ⟨⟨.empty, [], (default : Core)⟩⟩
def Y19e (x : Unit) : List Cell := [cS x.name, .list (x.globals.map Yhh), cI x.body.kind, cI x.body.number, .list (x.body.params.map Yhh), cI x.body.datum.kind, cI x.body.datum.number, cS x.body.datum.text, .list (x.body.datum.items.map Ynq), .list (x.body.kids.map Yt0)]
def Y197 (x : Unit) : List Cell := Y19e x
theorem Y1e8 (x : Unit) : Y197 x = Y19e x := rfl
instance : DecidableEq Unit := fun a b => by cases a; cases b; rw [Unit.mk.injEq]; infer_instance
instance : Row Unit Y197 Y19e 10 := ⟨Y1e8, fun _ => rfl⟩
structure World where
 expander : YE
 units : List Unit
 exports : List Export
instance : Inhabited World := ⟨⟨(default : YE), [], []⟩⟩
def Y14r (x : World) : List Cell := [.list (x.expander.bindings.map Yhg), .list (x.expander.macros.map Yhp), cI x.expander.scope, cI x.expander.vari, cI x.expander.steps, .list (x.units.map Y197), .list (x.exports.map Y10f)]
def Y1cm (x : World) : List Cell := Y14r x
theorem Y1cb (x : World) : Y1cm x = Y14r x := rfl
instance : DecidableEq World := fun a b => by cases a; cases b; rw [World.mk.injEq]; infer_instance
instance : Row World Y1cm Y14r 7 := ⟨Y1cb, fun _ => rfl⟩
def sz (w : Nat) (left : Int) : Int := if (w : Int) <= left then left - w else -1
def Yjm {α : Type} (f : α -> Nat) : List α -> Nat
 | [] => 0
 | x :: r => max (f x) (Yjm f r)
theorem Yr4 {α : Type} (f : α -> Nat) : ∀ (a b : List α), Yjm f (a ++ b) = max (Yjm f a) (Yjm f b)
 | [], b => by simp [Yjm]
 | x :: a, b => by simp only [List.cons_append, Yjm, Yr4 f a b]; omega
theorem Y1aj {α : Type} [Inhabited α] (c : α -> Nat) {L : List α} {i : Nat} (h : i < L.length) : Yjm c (L.take (i + 1)) = max (Yjm c (L.take i)) (c (L.getD i default)) := by
 rw [Yi2 h, Yr4]; simp [Yjm]
theorem Yuv {α : Type} (f : α -> Nat) : ∀ {L : List α} {x : α}, x ∈ L -> f x <= Yjm f L
 | y :: r, x, h => by
  rcases List.mem_cons.1 h with rfl | h
  ·simp only [Yjm]; omega
  ·have := Yuv f h; simp only [Yjm]; omega
theorem Y12y {α : Type} (f : α -> Nat) {m : Nat} : ∀ {L : List α}, Yjm f L <= m ↔ ∀ x ∈ L, f x <= m
 | [] => by simp [Yjm]
 | x :: r => by
  have h := Y12y f (m := m) (L := r)
  simp only [Yjm, List.forall_mem_cons, <- h]; omega
def Yjd {α : Type} (f : α -> Int -> Bool × Int) : List α -> Int -> Bool × Int
 | [], m => (true, m)
 | x :: r, m => if (f x m).1 then Yjd f r (f x m).2 else (false, (f x m).2)
theorem Yrv {α : Type} (f : α -> Int -> Bool × Int) : ∀ (a b : List α) (m : Int), Yjd f (a ++ b) m = if (Yjd f a m).1 then Yjd f b (Yjd f a m).2 else Yjd f a m
 | [], b, m => by simp [Yjd]
 | x :: a, b, m => by
  simp only [List.cons_append, Yjd]
  by_cases e : (f x m).1 = true
  ·simp only [if_pos e]; exact Yrv f a b _
  ·simp only [if_neg e]; rfl
theorem Y10u {α : Type} [Inhabited α] (f : α -> Int -> Bool × Int) {L : List α} {k : Nat} (h : k < L.length) (m : Int) (ht : (Yjd f (L.take k) m).1 = true) : Yjd f (L.take (k + 1)) m = f (L.getD k default) (Yjd f (L.take k) m).2 := by
 rw [Yi2 h, Yrv, if_pos ht]
 simp only [Yjd]
 cases e : (f (L.getD k default) (Yjd f (L.take k) m).2).1 with
 | true => simp only [if_true]; rw [<- e]
 | false => simp only [Bool.false_eq_true, if_false]; rw [<- e]
theorem Y1df {α : Type} [Inhabited α] (f : α -> Int -> Bool × Int) {L : List α} {k : Nat} (h : k < L.length) (m : Int) (ht : (Yjd f (L.take k) m).1 = true) (hf : (f (L.getD k default) (Yjd f (L.take k) m).2).1 = false) : Yjd f L m = f (L.getD k default) (Yjd f (L.take k) m).2 := by
 have h1 := Y10u f h m ht
 have h2 := Yrv f (L.take (k + 1)) (L.drop (k + 1)) m
 rw [List.take_append_drop, h1, hf] at h2
 rw [h2]; rfl
theorem Y187 {α : Type} (f : α -> Int -> Bool × Int) (w : α -> Nat) (P : α -> Prop) (M : Int) : ∀ (L : List α), (∀ x ∈ L, ∀ m, m <= M -> ((f x m).1 = true ↔ (m + w x <= M /\ P x)) /\ ((f x m).1 = true -> (f x m).2 = m + w x)) ->
  ∀ m, m <= M -> ((Yjd f L m).1 = true ↔ (m + Yhe w L <= M /\ ∀ x ∈ L, P x)) /\ ((Yjd f L m).1 = true -> (Yjd f L m).2 = m + Yhe w L)
 | [], _, m, hm => by simp [Yjd, Yhe, hm]
 | x :: r, hL, m, hm => by
  have h1 := hL x List.mem_cons_self m hm
  simp only [Yjd, Yhe, List.forall_mem_cons]
  cases e : (f x m).1 with
  | true =>
   have h2 := h1.1.1 e
   have h3 := h1.2 e
   have h4 := Y187 f w P M r (fun y hy => hL y (List.mem_cons_of_mem _ hy)) (m + w x) h2.1
   simp only [if_true, h3]
   constructor
   ·rw [h4.1]; constructor
    ·rintro ⟨a, b⟩; exact ⟨by omega, h2.2, b⟩
    ·rintro ⟨a, _, b⟩; exact ⟨by omega, b⟩
   ·intro ht; rw [h4.2 ht]; omega
  | false =>
   simp only [Bool.false_eq_true, if_false, false_iff]
   refine ⟨?_, False.elim⟩
   rintro ⟨a, b, _⟩
   have := h1.1.2 ⟨by omega, b⟩
   rw [e] at this; exact Bool.noConfusion this
theorem Y1l8 {L : List UInt8} {k : Nat} (h : k < L.length) : L.take (k + 1) = L.take k ++ [L.getD k 0] := by
 rw [List.take_succ_eq_append_getElem h]; simp [h]
theorem Y11u {α : Type} {f g : α -> Nat} : ∀ {L : List α}, (∀ x ∈ L, f x <= g x) -> Yjm f L <= Yhe g L
 | [], _ => Nat.le_refl _
 | x :: l, h => by
  have h1 := h x List.mem_cons_self
  have h2 := Y11u (L := l) fun y hy => h y (List.mem_cons_of_mem _ hy)
  simp only [Yhe, Yjm]; omega
end Go.Proofs.YtpnaoendfpaodaaGreat
end
section
namespace Go.Proofs.YtpnaoendfpaodaaGreat
open Go Go.Proofs.YtpnaoendfpaodaaGreat.Ab Go.ChangeShapes
section
variable {H : Type} {enc : TypeId × Value -> H} {P : Program} {w : Go.World} {sp : Nat -> Bool} {hd : Bool} {fuel : Nat} {cs : List Value} {x : DataW H × List MemPlace}
abbrev Old (w : Go.World) (b : Nat) : Prop := b < w.heap.size
theorem Yop {t : TypeId} {k : IntKind} (ht : P.underlying t = some (.int k)) (h : DataW.trod enc P w 0 sp hd fuel t cs = some x) : ∃ n : Int, Yi0 (Rd w (Old w)) cs [.lit (.int k n)] := by
 obtain ⟨n, rfl, _⟩ := DataW.trod_int ht h
 exact ⟨n, .lit trivial, trivial⟩
theorem Y10k {t : TypeId} (ht : P.underlying t = some .string) (h : DataW.trod enc P w 0 sp hd fuel t cs = some x) : ∃ s : ByteArray, Yi0 (Rd w (Old w)) cs [.lit (.string s)] := by
 obtain ⟨s, rfl, _, hs⟩ := DataW.trod_string ht h
 exact ⟨s, .lit hs, trivial⟩
theorem Yn7 {α : Type} [Inhabited α] {C : α -> List Cell} {t e : TypeId} (ht : P.underlying t = some (.slice e)) (hpos : 0 < P.cellsOf e)
  (hC : ∀ a, (C a).length = P.cellsOf e)
  (hel : ∀ n, n < fuel -> ∀ (cs : List Value) (x : DataW H × List MemPlace), DataW.trod enc P w 0 sp hd n e cs = some x -> ∃ a, Yi0 (Rd w (Old w)) cs (C a))
  (h : DataW.trod enc P w 0 sp hd fuel t cs = some x) : ∃ L : List α, Yi0 (Rd w (Old w)) cs [.list (L.map C)] := by
 rcases DataW.trod_slice ht h with ⟨rfl, _⟩ | ⟨a, len, cap, elems, rest, n, hn, rfl, _, _, hl, hm, hlen, hel2, _, _⟩
 ·exact ⟨[], Rd.nil, trivial⟩
 have hone : ∀ i, i < len -> ∃ p : List Value × α, w.cells? 0 (a.add (i * P.cellsOf e)) (P.cellsOf e) = some p.1 /\ Yi0 (Rd w (Old w)) p.1 (C p.2) := by
  intro i hi
  have hb := hel2 i hi
  rw [List.getElem?_eq_getElem (by omega)] at hb
  obtain ⟨cs', h1, h2⟩ := Option.bind_eq_some_iff.1 hb
  obtain ⟨y, hy⟩ := hel n (by omega) cs' _ h2
  exact ⟨(cs', y), h1, hy⟩
 obtain ⟨f, hf⟩ := Go.Deep.choose_lt hone
 let L : List α := (List.range len).map fun i => (f i).2
 have hL : L.length = len := by simp [L]
 rcases Nat.eq_zero_or_pos len with h0 | h0
 ·subst h0
  have : L = [] := by simp [L]
  exact ⟨[], Rd.nil, trivial⟩
 have hcell : ∀ i k, i < len -> k < P.cellsOf e -> ∃ v c, w.cell? (a.add (i * P.cellsOf e + k)) = some v /\ (C (f i).2)[k]? = some c /\ Rd w (Old w) v c := by
  intro i k hi hk
  obtain ⟨h1, h2⟩ := hf i hi
  obtain ⟨_, h3, h4⟩ := Go.World.cells?_some h1
  have h5 := h4 k hk
  rw [Go.Deep.add_add] at h5
  have h6 : k < (f i).1.length := by omega
  rw [List.getElem?_eq_getElem h6] at h5
  have h7 : k < (C (f i).2).length := by rw [hC]; exact hk
  exact ⟨_, _, h5, List.getElem?_eq_getElem h7, h2.get (List.getElem?_eq_getElem h6) (List.getElem?_eq_getElem h7)⟩
 have hspot : a.spot = none := by
  obtain ⟨v, _, h1, _⟩ := hcell 0 0 h0 hpos
  simp only [Nat.zero_mul, Nat.add_zero, Addr.add, if_true] at h1
  unfold Go.World.cell? at h1
  split at h1
  ·split at h1
   ·cases h1
   ·rename_i hs; simpa using hs
  ·cases h1
 have haddr : ∀ j, a.add j = ⟨a.block, a.off + j, none⟩ := by
  intro j
  unfold Addr.add
  split
  ·rename_i hj; subst hj; cases a; simp_all
  ·rfl
 have hblk : a.block < w.heap.size := by
  obtain ⟨v, _, h1, _⟩ := hcell 0 0 h0 hpos
  unfold Go.World.cell? at h1
  rw [haddr] at h1
  simp only at h1
  cases hh : w.heap[a.block]? with
  | none => rw [hh] at h1; cases h1
  | some o => exact (Array.getElem?_eq_some_iff.1 hh).1
 refine ⟨L, ?_, trivial⟩
 have hval : (Value.slice (some a) len cap) = .slice (some ⟨a.block, a.off, none⟩) (L.map C).length cap := by
  rw [List.length_map, hL]; cases a; simp_all
 rw [hval]
 have hszL : ∀ es ∈ L.map C, es.length = P.cellsOf e := by
  intro es hes; obtain ⟨y, _, rfl⟩ := List.mem_map.1 hes; exact hC y
 have hflat : (L.map C).flatten.length = len * P.cellsOf e := by rw [Yj6 hszL, List.length_map, hL]
 refine Rd.slice (sz := P.cellsOf e) (xs := (List.range (len * P.cellsOf e)).map fun j => (w.cell? (a.add j)).getD undef) hblk (by rw [List.length_map, hL]; exact hl) hm hszL (by rw [hflat]; simp) ?_ ?_
 ·intro j u hu
  have hj : j < len * P.cellsOf e := by
   have := (List.getElem?_eq_some_iff.1 hu).1; simpa using this
  simp only [List.getElem?_map, List.getElem?_range hj, Option.map_some, Option.some.injEq] at hu
  obtain ⟨v, _, h1, _⟩ := hcell (j / P.cellsOf e) (j % P.cellsOf e) (Nat.div_lt_of_lt_mul (by rw [Nat.mul_comm]; exact hj)) (Nat.mod_lt _ hpos)
  have hdm : j / P.cellsOf e * P.cellsOf e + j % P.cellsOf e = j := by rw [Nat.mul_comm]; exact Nat.div_add_mod j _
  rw [hdm] at h1
  rw [h1] at hu
  rw [<- haddr, h1]
  simpa using hu
 ·intro j u c hu hc
  have hj : j < len * P.cellsOf e := by
   have := (List.getElem?_eq_some_iff.1 hu).1; simpa using this
  simp only [List.getElem?_map, List.getElem?_range hj, Option.map_some, Option.some.injEq] at hu
  have hi : j / P.cellsOf e < len := Nat.div_lt_of_lt_mul (by rw [Nat.mul_comm]; exact hj)
  obtain ⟨v, c', h1, h2, h3⟩ := hcell (j / P.cellsOf e) (j % P.cellsOf e) hi (Nat.mod_lt _ hpos)
  have hdm : j / P.cellsOf e * P.cellsOf e + j % P.cellsOf e = j := by rw [Nat.mul_comm]; exact Nat.div_add_mod j _
  rw [hdm] at h1
  rw [h1] at hu
  have hLi : (L.map C)[j / P.cellsOf e]? = some (C (f (j / P.cellsOf e)).2) := by simp [L, hi]
  have := Ykq hszL hLi h2
  rw [hdm, hc] at this
  simp only [Option.some.injEq] at this
  subst this
  simp only [Option.getD_some] at hu
  subst hu
  exact h3
theorem seg {R : Value -> Cell -> Prop} {cs : List Value} {k n m : Nat} {a b : List Cell} (h1 : Yi0 R ((cs.drop k).take n) a) (h2 : Yi0 R (cs.drop m) b) (e : k + n = m) : Yi0 R (cs.drop k) (a ++ b) := by
 subst e
 have := h1.append h2
 rwa [<- List.drop_drop, List.take_append_drop] at this
theorem Yyt {R : Value -> Cell -> Prop} {cs : List Value} {n : Nat} (h : cs.length = n) : Yi0 R (cs.drop n) [] := by
 rw [List.drop_of_length_le (by omega)]; trivial
theorem Yjb {fs : Array Field} {xs : List (DataW H × List MemPlace)} {n : Nat} (hlen : xs.length = fs.size)
  (h : ∀ (i : Nat) (f : Field), fs[i]? = some f -> DataW.trod enc P w 0 sp hd n f.type ((cs.drop f.offset).take (P.cellsOf f.type)) = xs[i]?) (i : Nat) {f : Field} (hf : fs[i]? = some f) :
  ∃ y, DataW.trod enc P w 0 sp hd n f.type ((cs.drop f.offset).take (P.cellsOf f.type)) = some y := by
 have hi : i < fs.size := (Array.getElem?_eq_some_iff.1 hf).1
 exact ⟨xs[i]'(by omega), by rw [h i f hf]; exact List.getElem?_eq_getElem _⟩
theorem Y16c {W W' : Go.World} (hk : W.kept W') {p : MemPlace} (hp : p.block < W.heap.size) : W.sameAt W' p := by
 cases p with
 | cell b off => exact Yl9 (hk.2.2 b hp)
 | map b => exact hk.2.2 b hp
theorem Yu8 {W W' : Go.World} (hl : laidOutB P = true) (hmr : mapsRowed P = true) (hsz : ((List.range P.types.size).all fun t => match P.underlying t with | some (.slice e) => decide (0 < P.cellsOf e) | _ => true) = true)
  (hk : W.kept W') {sp : Nat -> Bool} : ∀ {ts : List TypeId} {vs : List Value} {ds : List (DataW H)} {ps : List MemPlace}, (∀ t ∈ ts, t < P.types.size) -> DataW.TrodAll enc P W 0 (fun _ => true) true ts vs ds ps -> (∀ p ∈ ps, sp p.block = true) ->
   DataW.TrodAll enc P W' 0 sp true ts vs ds ps
 | [], [], [], ps, _, h, _ => h
 | t :: ts, v :: vs, d :: ds, ps, ht, ⟨p, q, ⟨fuel, hf⟩, h2, e⟩, hs => by
  subst e
  have hlt := DataW.trod_lt _ _ _ _ hf
  refine ⟨p, q, ⟨fuel, DataW.trod_stays (kids_rows hl hmr) (fun {t e} ht hu => ?_) (fun hh => by cases hh) (ht t List.mem_cons_self) hf (fun y hy => Y16c hk (hlt y hy)) (fun y hy => hs y (List.mem_append_left _ hy))⟩,
   Yu8 hl hmr hsz hk (fun t ht' => ht t (List.mem_cons_of_mem _ ht')) h2 (fun y hy => hs y (List.mem_append_right _ hy)), rfl⟩
  have := List.all_eq_true.1 hsz t (List.mem_range.2 ht)
  rw [hu] at this
  simpa using this
 | [], _ :: _, _, _, _, h, _ => h.elim
 | [], [], _ :: _, _, _, h, _ => h.elim
 | _ :: _, [], _, _, _, h, _ => h.elim
 | _ :: _, _ :: _, [], _, _, h, _ => h.elim
theorem Y188 {W : Go.World} {v : Value} {cs : List Cell} (h : ∃ arr, v = .agg arr) (hc : Yi0 (Rd W (Old W)) v.cells.toList cs) : Yiu W (Y10i W) (Yjg []) (.agg (vals cs)) v := by
 obtain ⟨arr, rfl⟩ := h
 refine ⟨arr, rfl, ?_⟩
 have : (Value.agg arr).cells = arr := rfl
 rw [this] at hc
 exact Yi0.map_left _ (hc.flip.imp fun c u hr => ⟨hr, hr.one⟩) |>.imp fun _ _ h => h
end
end Go.Proofs.YtpnaoendfpaodaaGreat
end
section
namespace Go.Proofs.YtpnaoendfpaodaaGreat
open Go Go.Proofs.YtpnaoendfpaodaaGreat.Ab Go.ChangeShapes
set_option maxRecDepth 100000
section
variable {H : Type} {enc : TypeId × Value -> H} {w : Go.World} {sp : Nat -> Bool} {hd : Bool}
theorem Yrl : ∀ (fuel : Nat) (cs : List Value) (x : DataW H × List MemPlace), DataW.trod enc Tryz.prog w 0 sp hd fuel 29 cs = some x -> ∃ a : YS, Yi0 (Rd w (Old w)) cs (Yhk a) := by
 intro fuel
 induction fuel using Nat.strongRecOn with | _ fuel ih =>
 intro cs x h
 obtain ⟨xs, n, rfl, _, hlen, hxs, hf⟩ := DataW.trod_struct Tryz.underlying29 h
 have hlen : cs.length = 5 := hlen.trans (by kernel_rfl)
 obtain ⟨y0, h0⟩ := Yjb hxs hf 0 (by rfl)
 obtain ⟨a0, r0⟩ := Yop Tryz.underlying3 h0
 obtain ⟨y1, h1⟩ := Yjb hxs hf 1 (by rfl)
 obtain ⟨a1, r1⟩ := Yop Tryz.underlying3 h1
 obtain ⟨y2, h2⟩ := Yjb hxs hf 2 (by rfl)
 obtain ⟨a2, r2⟩ := Y10k Tryz.underlying9 h2
 obtain ⟨y3, h3⟩ := Yjb hxs hf 3 (by rfl)
 obtain ⟨a3, r3⟩ := Yn7 (C := Yhh) Tryz.underlying26 (by rw [show Tryz.prog.cellsOf 3 = 1 from by kernel_rfl]; decide) (fun a => by kernel_rfl) (fun m hm cs x h => Yop Tryz.underlying3 h) h3
 obtain ⟨y4, h4⟩ := Yjb hxs hf 4 (by rfl)
 obtain ⟨a4, r4⟩ := Yn7 (C := Yhd) Tryz.underlying27 (by rw [show Tryz.prog.cellsOf 29 = 5 from by kernel_rfl]; decide) (fun a => by rw [Ykr]; kernel_rfl) (fun m hm cs x h => by obtain ⟨a, ha⟩ := ih m (by omega) cs x h; exact ⟨a, by rw [Ykr]; exact ha⟩) h4
 exact ⟨⟨a0, a1, a2, a3, a4⟩, seg r0 (seg r1 (seg r2 (seg r3 (seg r4 (Yyt hlen) (by kernel_rfl)) (by kernel_rfl)) (by kernel_rfl)) (by kernel_rfl)) (by kernel_rfl)⟩
theorem Y19o : ∀ (fuel : Nat) (cs : List Value) (x : DataW H × List MemPlace), DataW.trod enc Tryz.prog w 0 sp hd fuel 148 cs = some x -> ∃ a : YB, Yi0 (Rd w (Old w)) cs (Yhy a) := by
 intro fuel
 induction fuel using Nat.strongRecOn with | _ fuel ih =>
 intro cs x h
 obtain ⟨xs, n, rfl, _, hlen, hxs, hf⟩ := DataW.trod_struct Tryz.underlying148 h
 have hlen : cs.length = 4 := hlen.trans (by kernel_rfl)
 obtain ⟨y0, h0⟩ := Yjb hxs hf 0 (by rfl)
 obtain ⟨a0, r0⟩ := Y10k Tryz.underlying9 h0
 obtain ⟨y1, h1⟩ := Yjb hxs hf 1 (by rfl)
 obtain ⟨a1, r1⟩ := Yn7 (C := Yhh) Tryz.underlying26 (by rw [show Tryz.prog.cellsOf 3 = 1 from by kernel_rfl]; decide) (fun a => by kernel_rfl) (fun m hm cs x h => Yop Tryz.underlying3 h) h1
 obtain ⟨y2, h2⟩ := Yjb hxs hf 2 (by rfl)
 obtain ⟨a2, r2⟩ := Yop Tryz.underlying3 h2
 obtain ⟨y3, h3⟩ := Yjb hxs hf 3 (by rfl)
 obtain ⟨a3, r3⟩ := Yop Tryz.underlying3 h3
 exact ⟨⟨a0, a1, a2, a3⟩, seg r0 (seg r1 (seg r2 (seg r3 (Yyt hlen) (by kernel_rfl)) (by kernel_rfl)) (by kernel_rfl)) (by kernel_rfl)⟩
theorem Y1eq : ∀ (fuel : Nat) (cs : List Value) (x : DataW H × List MemPlace), DataW.trod enc Tryz.prog w 0 sp hd fuel 31 cs = some x -> ∃ a : YR, Yi0 (Rd w (Old w)) cs (Yiv a) := by
 intro fuel
 induction fuel using Nat.strongRecOn with | _ fuel ih =>
 intro cs x h
 obtain ⟨xs, n, rfl, _, hlen, hxs, hf⟩ := DataW.trod_struct Tryz.underlying31 h
 have hlen : cs.length = 3 := hlen.trans (by kernel_rfl)
 obtain ⟨y0, h0⟩ := Yjb hxs hf 0 (by rfl)
 obtain ⟨a0, r0⟩ := Yn7 (C := Yhd) Tryz.underlying27 (by rw [show Tryz.prog.cellsOf 29 = 5 from by kernel_rfl]; decide) (fun a => by rw [Ykr]; kernel_rfl) (fun m hm cs x h => by obtain ⟨a, ha⟩ := Yrl m cs x h; exact ⟨a, by rw [Ykr]; exact ha⟩) h0
 obtain ⟨y1, h1⟩ := Yjb hxs hf 1 (by rfl)
 obtain ⟨a1, r1⟩ := Yn7 (C := Yhd) Tryz.underlying27 (by rw [show Tryz.prog.cellsOf 29 = 5 from by kernel_rfl]; decide) (fun a => by rw [Ykr]; kernel_rfl) (fun m hm cs x h => by obtain ⟨a, ha⟩ := Yrl m cs x h; exact ⟨a, by rw [Ykr]; exact ha⟩) h1
 obtain ⟨y2, h2⟩ := Yjb hxs hf 2 (by rfl)
 obtain ⟨a2, r2⟩ := Yn7 (C := Yhd) Tryz.underlying27 (by rw [show Tryz.prog.cellsOf 29 = 5 from by kernel_rfl]; decide) (fun a => by rw [Ykr]; kernel_rfl) (fun m hm cs x h => by obtain ⟨a, ha⟩ := Yrl m cs x h; exact ⟨a, by rw [Ykr]; exact ha⟩) h2
 exact ⟨⟨a0, a1, a2⟩, seg r0 (seg r1 (seg r2 (Yyt hlen) (by kernel_rfl)) (by kernel_rfl)) (by kernel_rfl)⟩
theorem Y16r : ∀ (fuel : Nat) (cs : List Value) (x : DataW H × List MemPlace), DataW.trod enc Tryz.prog w 0 sp hd fuel 25 cs = some x -> ∃ a : YE, Yi0 (Rd w (Old w)) cs (Ykl a) := by
 intro fuel
 induction fuel using Nat.strongRecOn with | _ fuel ih =>
 intro cs x h
 obtain ⟨xs, n, rfl, _, hlen, hxs, hf⟩ := DataW.trod_struct Tryz.underlying25 h
 have hlen : cs.length = 5 := hlen.trans (by kernel_rfl)
 obtain ⟨y0, h0⟩ := Yjb hxs hf 0 (by rfl)
 obtain ⟨a0, r0⟩ := Yn7 (C := Yhg) Tryz.underlying22 (by rw [show Tryz.prog.cellsOf 148 = 4 from by kernel_rfl]; decide) (fun a => by rw [Ype]; kernel_rfl) (fun m hm cs x h => by obtain ⟨a, ha⟩ := Y19o m cs x h; exact ⟨a, by rw [Ype]; exact ha⟩) h0
 obtain ⟨y1, h1⟩ := Yjb hxs hf 1 (by rfl)
 obtain ⟨a1, r1⟩ := Yn7 (C := Yhp) Tryz.underlying23 (by rw [show Tryz.prog.cellsOf 31 = 3 from by kernel_rfl]; decide) (fun a => by rw [Yrn]; kernel_rfl) (fun m hm cs x h => by obtain ⟨a, ha⟩ := Y1eq m cs x h; exact ⟨a, by rw [Yrn]; exact ha⟩) h1
 obtain ⟨y2, h2⟩ := Yjb hxs hf 2 (by rfl)
 obtain ⟨a2, r2⟩ := Yop Tryz.underlying3 h2
 obtain ⟨y3, h3⟩ := Yjb hxs hf 3 (by rfl)
 obtain ⟨a3, r3⟩ := Yop Tryz.underlying3 h3
 obtain ⟨y4, h4⟩ := Yjb hxs hf 4 (by rfl)
 obtain ⟨a4, r4⟩ := Yop Tryz.underlying3 h4
 exact ⟨⟨a0, a1, a2, a3, a4⟩, seg r0 (seg r1 (seg r2 (seg r3 (seg r4 (Yyt hlen) (by kernel_rfl)) (by kernel_rfl)) (by kernel_rfl)) (by kernel_rfl)) (by kernel_rfl)⟩
end
end Go.Proofs.YtpnaoendfpaodaaGreat
end
section
namespace Go.Proofs.YtpnaoendfpaodaaGreat
open Go
set_option maxRecDepth 100000
def Y11v : List Char := (List.map Char.ofNat [104, 97, 114, 110, 101, 115, 115, 32, 53, 49, 57, 52, 56, 100, 53, 101, 51, 50, 52, 49, 57, 56, 98, 97, 99, 49, 55, 49, 99, 99, 53, 51, 48, 56, 97, 53, 102, 51, 55, 97, 53, 102, 50, 55, 102, 97, 102, 101, 57, 56, 97, 54, 100, 50, 51, 97, 55, 50, 56, 48, 54, 100, 50, 56, 55, 49, 49, 49, 102, 57, 56, 48, 32, 99, 117, 116, 32, 97, 116, 32, 108, 111, 111, 112, 46, 101, 120, 97, 109, 112, 108, 101, 47, 103, 48, 51, 50, 50, 48, 47, 108, 97, 119, 115, 46, 70, 110, 69, 120, 97, 99, 116, 66, 105, 110, 100, 77, 97, 99, 114, 111, 32, 108, 111, 111, 112, 46, 101, 120, 97, 109, 112, 108, 101, 47, 103, 48, 51, 50, 50, 48, 47, 108, 97, 119, 115, 46, 70, 110, 69, 120, 97, 99, 116, 80, 114, 111, 103, 114, 97, 109, 79, 102, 32, 108, 111, 111, 112, 46, 101, 120, 97, 109, 112, 108, 101, 47, 103, 48, 51, 50, 50, 48, 47, 108, 97, 119, 115, 46, 70, 110, 69, 120, 97, 99, 116, 77, 97, 116, 99, 104, 80, 97, 116, 116, 101, 114, 110, 32, 108, 111, 111, 112, 46, 101, 120, 97, 109, 112, 108, 101, 47, 103, 48, 51, 50, 50, 48, 47, 108, 97, 119, 115, 46, 70, 110, 69, 120, 97, 99, 116, 65, 112, 112, 108, 121, 82, 117, 108, 101, 115, 32, 108, 111, 111, 112, 46, 101, 120, 97, 109, 112, 108, 101, 47, 103, 48, 51, 50, 50, 48, 47, 108, 97, 119, 115, 46, 70, 110, 69, 120, 97, 99, 116, 69, 120, 112, 97, 110, 100, 83, 116, 101, 112, 32, 108, 111, 111, 112, 46, 101, 120, 97, 109, 112, 108, 101, 47, 103, 48, 51, 50, 50, 48, 47, 108, 97, 119, 115, 46, 70, 110, 69, 120, 97, 99, 116, 84, 114, 97, 99, 101, 70, 111, 114, 109, 32, 108, 111, 111, 112, 46, 101, 120, 97, 109, 112, 108, 101, 47, 103, 48, 51, 50, 50, 48, 47, 108, 97, 119, 115, 46, 70, 110, 69, 120, 97, 99, 116, 69, 120, 112, 97, 110, 100, 66, 111, 100, 121, 32, 108, 111, 111, 112, 46, 101, 120, 97, 109, 112, 108, 101, 47, 103, 48, 51, 50, 50, 48, 47, 108, 97, 119, 115, 46, 70, 110, 69, 120, 97, 99, 116, 69, 120, 112, 97, 110, 100, 69, 120, 112, 114, 101, 115, 115, 105, 111, 110])
def Ylm : List (List Char) := [(List.map Char.ofNat [104, 97, 114, 110, 101, 115, 115]),
 (List.map Char.ofNat [53, 49, 57, 52, 56, 100, 53, 101, 51, 50, 52, 49, 57, 56, 98, 97, 99, 49, 55, 49, 99, 99, 53, 51, 48, 56, 97, 53, 102, 51, 55, 97, 53, 102, 50, 55, 102, 97, 102, 101, 57, 56, 97, 54, 100, 50, 51, 97, 55, 50, 56, 48, 54, 100, 50, 56, 55, 49, 49, 49, 102, 57, 56, 48]),
 (List.map Char.ofNat [99, 117, 116]),
 (List.map Char.ofNat [97, 116]),
 (List.map Char.ofNat [108, 111, 111, 112, 46, 101, 120, 97, 109, 112, 108, 101, 47, 103, 48, 51, 50, 50, 48, 47, 108, 97, 119, 115, 46, 70, 110, 69, 120, 97, 99, 116, 66, 105, 110, 100, 77, 97, 99, 114, 111]),
 (List.map Char.ofNat [108, 111, 111, 112, 46, 101, 120, 97, 109, 112, 108, 101, 47, 103, 48, 51, 50, 50, 48, 47, 108, 97, 119, 115, 46, 70, 110, 69, 120, 97, 99, 116, 80, 114, 111, 103, 114, 97, 109, 79, 102]),
 (List.map Char.ofNat [108, 111, 111, 112, 46, 101, 120, 97, 109, 112, 108, 101, 47, 103, 48, 51, 50, 50, 48, 47, 108, 97, 119, 115, 46, 70, 110, 69, 120, 97, 99, 116, 77, 97, 116, 99, 104, 80, 97, 116, 116, 101, 114, 110]),
 (List.map Char.ofNat [108, 111, 111, 112, 46, 101, 120, 97, 109, 112, 108, 101, 47, 103, 48, 51, 50, 50, 48, 47, 108, 97, 119, 115, 46, 70, 110, 69, 120, 97, 99, 116, 65, 112, 112, 108, 121, 82, 117, 108, 101, 115]),
 (List.map Char.ofNat [108, 111, 111, 112, 46, 101, 120, 97, 109, 112, 108, 101, 47, 103, 48, 51, 50, 50, 48, 47, 108, 97, 119, 115, 46, 70, 110, 69, 120, 97, 99, 116, 69, 120, 112, 97, 110, 100, 83, 116, 101, 112]),
 (List.map Char.ofNat [108, 111, 111, 112, 46, 101, 120, 97, 109, 112, 108, 101, 47, 103, 48, 51, 50, 50, 48, 47, 108, 97, 119, 115, 46, 70, 110, 69, 120, 97, 99, 116, 84, 114, 97, 99, 101, 70, 111, 114, 109]),
 (List.map Char.ofNat [108, 111, 111, 112, 46, 101, 120, 97, 109, 112, 108, 101, 47, 103, 48, 51, 50, 50, 48, 47, 108, 97, 119, 115, 46, 70, 110, 69, 120, 97, 99, 116, 69, 120, 112, 97, 110, 100, 66, 111, 100, 121]),
 (List.map Char.ofNat [108, 111, 111, 112, 46, 101, 120, 97, 109, 112, 108, 101, 47, 103, 48, 51, 50, 50, 48, 47, 108, 97, 119, 115, 46, 70, 110, 69, 120, 97, 99, 116, 69, 120, 112, 97, 110, 100, 69, 120, 112, 114, 101, 115, 115, 105, 111, 110])]
theorem Y1dg : Tryz.pinned.checked.prog.initOrder = String.ofList Y11v := by kernel_rfl
theorem Y1ac : wordsSigns Y11v = Ylm := by kernel_rfl
theorem Y1a4 : wordsSigns Tryz.pinned.checked.prog.initOrder.toList = Ylm := by rw [Y1dg, String.toList_ofList]; exact Y1ac
theorem Y1ag : stripLifts liftWords (behindMainWord Ylm) = ([], behindMainWord Ylm) := by kernel_rfl
theorem Y1c1 (P : Program) (h : wordsSigns P.initOrder.toList = Ylm) (h1 : P.laysLater = false) (h2 : P.bearsReflect = false) (h3 : P.doorFits [] = true) : P.mayEnter = true := by
 have e : behindMainWord Ylm = (List.map Char.ofNat [99, 117, 116]) :: (behindMainWord Ylm).tail := by kernel_rfl
 have t := Y1ag
 unfold Program.mayEnter; rw [h]
 rw [e] at t ⊢
 simp only [t, h1, h2, h3]
 decide +kernel
theorem Y1f7 (P : Program) (h : wordsSigns P.initOrder.toList = Ylm) : P.make = some .cut := by
 unfold Program.make; rw [h]; kernel_rfl
theorem Y1e7 (P : Program) (h : wordsSigns P.initOrder.toList = Ylm) : P.liftsFinal = false := by
 unfold Program.liftsFinal Program.headLifts; rw [h]; kernel_rfl
theorem Y1le {a b : Bool} (h : a = true) (g : b = true) : (a && b) = true := by rw [h, g]; rfl
theorem Y1j7 : Tryz.pinned.checked.prog.mayEnter = true := Y1c1 _ Y1a4 (by kernel_rfl) (by kernel_rfl) (by kernel_rfl)
theorem Y1l1 : Tryz.pinned.checked.prog.make = some .cut := Y1f7 _ Y1a4
theorem Y1kz : Tryz.pinned.checked.prog.liftsFinal = false := Y1e7 _ Y1a4
end Go.Proofs.YtpnaoendfpaodaaGreat
end
section
namespace Go.Proofs.YtpnaoendfpaodaaGreat
open Go Ab
def Yhu {α : Type} (f : α -> Int -> α) (c : α -> Nat) : List α -> Int -> List α
 | [], _ => []
 | x :: r, n => f x n :: Yhu f c r (n + c x)
theorem Yih {α : Type} (f : α -> Int -> α) (c : α -> Nat) : ∀ (L : List α) (n : Int), (Yhu f c L n).length = L.length
 | [], n => rfl
 | x :: r, n => by simp [Yhu, Yih f c r]
theorem Ypk {α : Type} (f : α -> Int -> α) (c : α -> Nat) : ∀ (A B : List α) (n : Int), Yhu f c (A ++ B) n = Yhu f c A n ++ Yhu f c B (n + Yhe c A)
 | [], B, n => by simp [Yhu, Yhe]
 | x :: r, B, n => by simp only [List.cons_append, Yhu, Ypk f c r B, Yhe]; congr 3; omega
theorem Yv0 {α : Type} {c : α -> Nat} (h : ∀ x, 1 <= c x) : ∀ L : List α, L.length <= Yhe c L
 | [] => Nat.zero_le _
 | x :: r => by have := Yv0 h r; have := h x; simp only [Yhe, List.length_cons]; omega
def Yjy {α : Type} (f : α -> Int -> α) (c : α -> Nat) (L : List α) (n : Int) (i : Nat) : List α := Yhu f c (L.take i) n ++ L.drop i
theorem Yj2 {α : Type} (f : α -> Int -> α) (c : α -> Nat) (L : List α) (n : Int) (i : Nat) : (Yjy f c L n i).length = L.length := by simp [Yjy, Yih]; omega
theorem Yuf {α : Type} (f : α -> Int -> α) (c : α -> Nat) (L : List α) (n : Int) : Yjy f c L n 0 = L := by simp [Yjy, Yhu]
theorem Yji {α : Type} (f : α -> Int -> α) (c : α -> Nat) (L : List α) (n : Int) {i : Nat} (h : L.length <= i) : Yjy f c L n i = Yhu f c L n := by
 simp [Yjy, List.drop_eq_nil_of_le h, List.take_of_length_le h]
theorem Yxa {α : Type} [Inhabited α] (f : α -> Int -> α) (c : α -> Nat) (L : List α) (n : Int) {i : Nat} (h : i < L.length) : (Yjy f c L n i).getD i default = L.getD i default := by
 have : i - (Yhu f c (List.take i L) n).length = 0 := by simp [Yih]; omega
 unfold Yjy
 rw [Yj4 h, List.getD_eq_getElem?_getD, List.getElem?_append_right (by simp [Yih]; omega), this]; simp
theorem Y1dy {α : Type} [Inhabited α] (f : α -> Int -> α) (c : α -> Nat) (L : List α) (n : Int) {i : Nat} (h : i < L.length) :
  (Yjy f c L n i).set i (f (L.getD i default) (n + Yhe c (L.take i))) = Yjy f c L n (i + 1) := by
 have : i - (Yhu f c (List.take i L) n).length = 0 := by simp [Yih]; omega
 unfold Yjy
 rw [Yj4 h, Yi2 h, List.set_append_right _ _ (by simp [Yih]; omega), this, Ypk]
 simp [Yhu]
theorem Yj9 {α : Type} [Inhabited α] {f : α -> Int -> α} {c : α -> Nat} {L : List α} {n : Int} {C : α -> List Cell} {i : Nat} {r : List Cell} (h : i < L.length) (hr : C (L.getD i default) = r) :
  ((Yjy f c L n i).map C)[i]? = some r := by
 rw [<- hr, <- Yxa f c L n h]; exact Ykm (by rw [Yj2]; exact h) rfl
theorem Yiz {α : Type} [Inhabited α] {f : α -> Int -> α} {c : α -> Nat} {L : List α} {n : Int} {C : α -> List Cell} {i : Nat} {r : List Cell} (h : i < L.length)
  (hr : C (f (L.getD i default) (n + Yhe c (L.take i))) = r) : ((Yjy f c L n i).map C).set i r = (Yjy f c L n (i + 1)).map C := by
 rw [<- hr, <- List.map_set, Y1dy f c L n h]
theorem Y1b9 {α : Type} [Inhabited α] (f : α -> Int -> α) (c : α -> Nat) {L : List α} (n : Int) {i : Nat} (h : i < L.length) :
  Yhu f c (L.take (i + 1)) n = L.take (i + 1) ↔ Yhu f c (L.take i) n = L.take i /\ f (L.getD i default) (n + Yhe c (L.take i)) = L.getD i default := by
 rw [Yi2 h, Ypk]
 constructor
 ·intro e
  have := List.append_inj e (by simp [Yih])
  exact ⟨this.1, by simpa [Yhu] using this.2⟩
 ·rintro ⟨e1, e2⟩; rw [e1]; simp only [Yhu]; rw [e2]
theorem Y1di {α : Type} (f : α -> Int -> α) (c : α -> Nat) {L : List α} {n : Int} (i : Nat) (h : Yhu f c L n = L) : Yhu f c (L.take i) n = L.take i := by
 have e : Yhu f c (L.take i ++ L.drop i) n = L.take i ++ L.drop i := by rw [List.take_append_drop]; exact h
 rw [Ypk] at e
 exact (List.append_inj e (by simp [Yih])).1
theorem Ysr {α : Type} [Inhabited α] {f : α -> Int -> α} {c : α -> Nat} {L : List α} {n : Int} (h : Yhu f c L n = L) {i : Nat} (hi : i < L.length) :
  f (L.getD i default) (n + Yhe c (L.take i)) = L.getD i default := ((Y1b9 f c n hi).1 (Y1di f c (i + 1) h)).2
def mkI (_ : Int) (n : Int) : Int := n
def Yix {α : Type} (_ : α) : Nat := 1
theorem Ytd {α : Type} : ∀ L : List α, Yhe Yix L = L.length
 | [] => rfl
 | x :: r => by simp only [Yhe, Ytd r, List.length_cons, Yix]; omega
theorem Y13i {L : List Int} {n : Int} (h : Yhu mkI Yix L n = L) {i : Nat} (hi : i < L.length) : L.getD i 0 = n + i := by
 have := Ysr h hi
 simp only [mkI, Ytd, List.length_take] at this
 rw [show min i L.length = i by omega] at this
 exact this.symm
theorem Y11x {α : Type} {L : List α} {i : Nat} (h : i <= L.length) : Yhe Yix (L.take i) = i := by rw [Ytd]; simp; omega
theorem Ym1 {α : Type} {c w : α -> Nat} : ∀ (L : List α) (_ : ∀ y ∈ L, c y <= 16 + 16 * w y), Yhe c L <= 16 * L.length + 16 * Yhe w L
 | [], _ => by simp [Yhe]
 | x :: r, h => by have := h x (List.mem_cons_self ..); have := Ym1 r (fun y hy => h y (List.mem_cons_of_mem _ hy)); simp only [Yhe, List.length_cons]; omega
class Marks {α : Type} (f : α -> Int -> α) (c : outParam (α -> Nat)) : Prop where
 fix : ∀ x n, f (f x n) n = f x n
 cnt : ∀ x n, c (f x n) = c x
theorem Yo9 {α : Type} {f : α -> Int -> α} {c : α -> Nat} : ∀ (L : List α) (n : Int) (_ : ∀ x ∈ L, ∀ n, c (f x n) = c x), Yhe c (Yhu f c L n) = Yhe c L
 | [], _, _ => rfl
 | x :: r, n, h => by simp only [Yhu, Yhe]; rw [h x (List.mem_cons_self ..), Yo9 r _ (fun y hy => h y (List.mem_cons_of_mem _ hy))]
theorem Ynb {α : Type} {f : α -> Int -> α} {c : α -> Nat} : ∀ (L : List α) (n : Int) (_ : ∀ x ∈ L, ∀ n, c (f x n) = c x) (_ : ∀ x ∈ L, ∀ n, f (f x n) n = f x n), Yhu f c (Yhu f c L n) n = Yhu f c L n
 | [], _, _, _ => rfl
 | x :: r, n, h, g => by
  simp only [Yhu]; rw [h x (List.mem_cons_self ..), g x (List.mem_cons_self ..), Ynb r _ (fun y hy => h y (List.mem_cons_of_mem _ hy)) (fun y hy => g y (List.mem_cons_of_mem _ hy))]
theorem Yj5 {α : Type} {f : α -> Int -> α} {c : α -> Nat} [Marks f c] (L : List α) (n : Int) : Yhe c (Yhu f c L n) = Yhe c L := Yo9 L n fun x _ => Marks.cnt x
theorem Yka {α : Type} {f : α -> Int -> α} {c : α -> Nat} [Marks f c] (L : List α) (n : Int) : Yhu f c (Yhu f c L n) n = Yhu f c L n := Ynb L n (fun x _ => Marks.cnt x) fun x _ => Marks.fix x
instance : Marks mkI Yix := ⟨fun _ _ => rfl, fun _ _ => rfl⟩
def Ymu (n : Nat) : List UInt8 := if h : n = 0 then [] else Ymu (n / 10) ++ [UInt8.ofNat (48 + n % 10)]
theorem Y11h {n : Nat} (h : 0 < n) : Ymu n = Ymu (n / 10) ++ [UInt8.ofNat (48 + n % 10)] := by
 rw [Ymu]; simp [show n ≠ 0 by omega]
theorem Y14s (n : Nat) : (Ymu n).length <= n := by
 induction n using Nat.strongRecOn with
 | ind n ih =>
  by_cases h : n = 0
  ·subst h; rw [Ymu]; simp
  ·rw [Y11h (by omega)]
   have := ih (n / 10) (by omega)
   simp only [List.length_append, List.length_cons, List.length_nil]; omega
theorem Y1bo : Ymu 0 = [] := by rw [Ymu]; simp
theorem Y1ed {i : Int} (h : 0 < i) : Ymu i.toNat = Ymu (i / 10).toNat ++ [UInt8.ofNat (48 + i % 10).toNat] := by
 rw [Y11h (by omega), show i.toNat / 10 = (i / 10).toNat by omega, show 48 + i.toNat % 10 = (48 + i % 10).toNat by omega]
theorem Y1k8 {d : Int} (h0 : 0 <= d) (h1 : d < 256) : ((UInt8.ofNat d.toNat).toNat : Int) = d := by
 rw [UInt8.toNat_ofNat']; omega
theorem Y1lm {n : Int} : rng .u8 n ↔ 0 <= n /\ n <= 255 := by
 unfold rng; simp [IntKind.min, IntKind.max, IntKind.signed, IntKind.bits]
def Yj7 (n : Int) : ByteArray := if n <= 0 then mkS [109, 48] else mkS (109 :: Ymu n.toNat)
def mkT (_ : ByteArray) (n : Int) : ByteArray := Yj7 n
instance : Marks mkT Yix := ⟨fun _ _ => rfl, fun _ _ => rfl⟩
theorem Yjr {α : Type} {l : List α} {k : Nat} {r : α} (h : k < l.length) : (l.set k r)[k]? = some r := by simp [h]
theorem Yjs {α : Type} [Inhabited α] {C F : α -> List Cell} {z : Nat} [Row α C F z] {f : α -> Int -> α} {c : α -> Nat} {L : List α} {n : Int} {i : Nat} (h : i < L.length) :
  ((Yjy f c L n i).map C)[i]? = some (F (L.getD i default)) := Yj9 h (Row.eq _)
theorem Yi5 : (∀ {α : Type} (f : α -> Int -> α) (c : α -> Nat) (L : List α) (n : Int) (i : Nat), (Yjy f c L n i).length = L.length) /\ (∀ {α : Type} (f : α -> Int -> α) (c : α -> Nat) (L : List α) (n : Int), Yjy f c L n 0 = L) /\
  (∀ {α : Type} (L : List α), Yhe Yix L = L.length) /\ (∀ {α : Type} (f : α -> Int -> α) (c : α -> Nat) (L : List α) (n : Int), (Yhu f c L n).length = L.length) /\
  (∀ {α : Type} (l : List α) (i : Nat) (a : α), (l.set i a).length = l.length) /\ (∀ {α : Type} (l : List α) (i : Nat) (a b : α), (l.set i a).set i b = l.set i b) /\ (∀ {α : Type} (l : List α), l.take 0 = []) /\
  (∀ {α : Type} (f : α -> Nat), Yhe f [] = 0) /\ ((0 : Nat) : Int) = 0 /\ (∀ n : Int, n + 0 = n) :=
 ⟨Yj2, Yuf, Ytd, Yih, fun _ _ _ => List.length_set, fun _ _ _ _ => by simp, fun _ => List.take_zero, fun _ => rfl, rfl, Int.add_zero⟩
mutual
def cD : Datum -> Nat
 | ⟨kind', number', text', items'⟩ => 3 + cDs items'
def cDs : List Datum -> Nat
 | [] => 0
 | x :: r => cD x + cDs r
end
theorem Y1cd : ∀ l, cDs l = Yhe cD l
 | [] => by simp [cDs, Yhe]
 | x :: r => by rw [cDs, Y1cd r, Yhe]
theorem Y1g8 (x : Datum) : cD x = 3 + Yhe cD x.items := by cases x; simp only [cD, Y1cd]
mutual
def mkD : Datum -> Int -> Datum
 | ⟨kind', number', text', items'⟩, n => ⟨n, (n + 1), (Yj7 (n + 1 + 1)), (Y147 items' (n + 1 + 1 + 1))⟩
def Y147 : List Datum -> Int -> List Datum
 | [], _ => []
 | x :: r, n => mkD x n :: Y147 r (n + cD x)
end
theorem Y178 : ∀ l n, Y147 l n = Yhu mkD cD l n
 | [], n => by rw [Y147, Yhu]
 | x :: r, n => by rw [Y147, Yhu, Y178 r]
theorem Y12w (x : Datum) (n : Int) : mkD x n = ⟨n, (n + 1), (Yj7 (n + 1 + 1)), (Yhu mkD cD x.items (n + 1 + 1 + 1))⟩ := by cases x; simp only [mkD, Y178]
theorem Y16v : ∀ (x : Datum) (n : Int), cD (mkD x n) = cD x := Datum.ind (P := fun x => ∀ n, cD (mkD x n) = cD x) fun x ih n => by
 rw [Y1g8, Y1g8 x, Y12w]; simp only [Yih, Yj5]; rw [Yo9 x.items _ ih]
theorem Y1ft : ∀ (x : Datum) (n : Int), mkD (mkD x n) n = mkD x n := Datum.ind (P := fun x => ∀ n, mkD (mkD x n) n = mkD x n) fun x ih n => by
 rw [Y12w (mkD x n), Y12w x n]; simp only [Yih, Yj5, Yka]; rw [Ynb x.items _ (fun x _ => Y16v x) ih]
instance : Marks mkD cD := ⟨Y1ft, Y16v⟩
mutual
def cC : Core -> Nat
 | ⟨kind', number', params', datum', kids'⟩ => 5 + params'.length + Yhe cD datum'.items + cCs kids'
def cCs : List Core -> Nat
 | [] => 0
 | x :: r => cC x + cCs r
end
theorem Y1c2 : ∀ l, cCs l = Yhe cC l
 | [] => by simp [cCs, Yhe]
 | x :: r => by rw [cCs, Y1c2 r, Yhe]
theorem Y1gf (x : Core) : cC x = 5 + x.params.length + Yhe cD x.datum.items + Yhe cC x.kids := by cases x; simp only [cC, Y1c2]
mutual
def mkC : Core -> Int -> Core
 | ⟨kind', number', params', datum', kids'⟩, n => ⟨n, (n + 1), (Yhu mkI Yix params' (n + 1 + 1)), ⟨(n + 1 + 1 + params'.length), (n + 1 + 1 + params'.length + 1), (Yj7 (n + 1 + 1 + params'.length + 1 + 1)), (Yhu mkD cD datum'.items (n + 1 + 1 + params'.length + 1 + 1 + 1))⟩, (Y14w kids' (n + 1 + 1 + params'.length + 1 + 1 + 1 + Yhe cD datum'.items))⟩
def Y14w : List Core -> Int -> List Core
 | [], _ => []
 | x :: r, n => mkC x n :: Y14w r (n + cC x)
end
theorem Y170 : ∀ l n, Y14w l n = Yhu mkC cC l n
 | [], n => by rw [Y14w, Yhu]
 | x :: r, n => by rw [Y14w, Yhu, Y170 r]
theorem Y13p (x : Core) (n : Int) : mkC x n = ⟨n, (n + 1), (Yhu mkI Yix x.params (n + 1 + 1)), ⟨(n + 1 + 1 + x.params.length), (n + 1 + 1 + x.params.length + 1), (Yj7 (n + 1 + 1 + x.params.length + 1 + 1)), (Yhu mkD cD x.datum.items (n + 1 + 1 + x.params.length + 1 + 1 + 1))⟩, (Yhu mkC cC x.kids (n + 1 + 1 + x.params.length + 1 + 1 + 1 + Yhe cD x.datum.items))⟩ := by cases x; simp only [mkC, Y170]
theorem Y18o : ∀ (x : Core) (n : Int), cC (mkC x n) = cC x := Core.ind (P := fun x => ∀ n, cC (mkC x n) = cC x) fun x ih n => by
 rw [Y1gf, Y1gf x, Y13p]; simp only [Yih, Yj5]; rw [Yo9 x.kids _ ih]
theorem Y1fk : ∀ (x : Core) (n : Int), mkC (mkC x n) n = mkC x n := Core.ind (P := fun x => ∀ n, mkC (mkC x n) n = mkC x n) fun x ih n => by
 rw [Y13p (mkC x n), Y13p x n]; simp only [Yih, Yj5, Yka]; rw [Ynb x.kids _ (fun x _ => Y18o x) ih]
instance : Marks mkC cC := ⟨Y1fk, Y18o⟩
mutual
def cY : YS -> Nat
 | ⟨kind', number', text', scopes', items'⟩ => 3 + scopes'.length + cYs items'
def cYs : List YS -> Nat
 | [] => 0
 | x :: r => cY x + cYs r
end
theorem Y1bb : ∀ l, cYs l = Yhe cY l
 | [] => by simp [cYs, Yhe]
 | x :: r => by rw [cYs, Y1bb r, Yhe]
theorem Ypi (x : YS) : cY x = 3 + x.scopes.length + Yhe cY x.items := by cases x; simp only [cY, Y1bb]
mutual
def mkY : YS -> Int -> YS
 | ⟨kind', number', text', scopes', items'⟩, n => ⟨n, (n + 1), (Yj7 (n + 1 + 1)), (Yhu mkI Yix scopes' (n + 1 + 1 + 1)), (Y160 items' (n + 1 + 1 + 1 + scopes'.length))⟩
def Y160 : List YS -> Int -> List YS
 | [], _ => []
 | x :: r, n => mkY x n :: Y160 r (n + cY x)
end
theorem Y18e : ∀ l n, Y160 l n = Yhu mkY cY l n
 | [], n => by rw [Y160, Yhu]
 | x :: r, n => by rw [Y160, Yhu, Y18e r]
theorem Yut (x : YS) (n : Int) : mkY x n = ⟨n, (n + 1), (Yj7 (n + 1 + 1)), (Yhu mkI Yix x.scopes (n + 1 + 1 + 1)), (Yhu mkY cY x.items (n + 1 + 1 + 1 + x.scopes.length))⟩ := by cases x; simp only [mkY, Y18e]
theorem Y19i (x : YS) (n : Int) : Yhd (mkY x n) = [cI (n), cI (n + 1), cS (Yj7 (n + 1 + 1)), .list ((Yhu mkI Yix x.scopes (n + 1 + 1 + 1)).map Yhh), .list ((Yhu mkY cY x.items (n + 1 + 1 + 1 + x.scopes.length)).map Yhd)] := by rw [Ykr, Yut]; rfl
theorem Y1gr {x : YS} {n : Int} (h : mkY x n = x) : x.kind = n /\ x.number = n + 1 /\ x.text = Yj7 (n + 1 + 1) /\ Yhu mkI Yix x.scopes (n + 1 + 1 + 1) = x.scopes /\ Yhu mkY cY x.items (n + 1 + 1 + 1 + x.scopes.length) = x.items := by
 have e := h.symm; rw [Yut] at e
 exact ⟨congrArg (fun z => z.kind) e, congrArg (fun z => z.number) e, congrArg (fun z => z.text) e, (congrArg (fun z => z.scopes) e).symm, (congrArg (fun z => z.items) e).symm⟩
theorem Y17k : ∀ (x : YS) (n : Int), cY (mkY x n) = cY x := YS.ind (P := fun x => ∀ n, cY (mkY x n) = cY x) fun x ih n => by
 rw [Ypi, Ypi x, Yut]; simp only [Yih, Yj5]; rw [Yo9 x.items _ ih]
theorem Y1dz : ∀ (x : YS) (n : Int), mkY (mkY x n) n = mkY x n := YS.ind (P := fun x => ∀ n, mkY (mkY x n) n = mkY x n) fun x ih n => by
 rw [Yut (mkY x n), Yut x n]; simp only [Yih, Yj5, Yka]; rw [Ynb x.items _ (fun x _ => Y17k x) ih]
instance : Marks mkY cY := ⟨Y1dz, Y17k⟩
theorem Yy3 : ∀ x : YS, cY x <= 16 + 16 * wY x := YS.ind (P := fun x => cY x <= 16 + 16 * wY x) fun x ih => by
 have b0 := Ym1 x.items ih
 simp only [Ypi, Yjc, wS]
 omega
theorem Y1d1 (L : List YS) : L.length <= Yhe cY L := Yv0 (fun x => by rw [Ypi]; omega) L
def cB (x : YB) : Nat := 3 + x.scopes.length
theorem Ysm (x : YB) : cB x = 3 + x.scopes.length := rfl
def mkB (x : YB) (n : Int) : YB := ⟨(Yj7 (n)), (Yhu mkI Yix x.scopes (n + 1)), (n + 1 + x.scopes.length), (n + 1 + x.scopes.length + 1)⟩
theorem Yxn (x : YB) (n : Int) : mkB x n = ⟨(Yj7 (n)), (Yhu mkI Yix x.scopes (n + 1)), (n + 1 + x.scopes.length), (n + 1 + x.scopes.length + 1)⟩ := rfl
theorem Y19f (x : YB) (n : Int) : Yhg (mkB x n) = [cS (Yj7 (n)), .list ((Yhu mkI Yix x.scopes (n + 1)).map Yhh), cI (n + 1 + x.scopes.length), cI (n + 1 + x.scopes.length + 1)] := by rw [Ype, Yxn]; rfl
theorem Y1gu {x : YB} {n : Int} (h : mkB x n = x) : x.text = Yj7 (n) /\ Yhu mkI Yix x.scopes (n + 1) = x.scopes /\ x.kind = n + 1 + x.scopes.length /\ x.number = n + 1 + x.scopes.length + 1 := by
 have e := h.symm; rw [Yxn] at e
 exact ⟨congrArg (fun z => z.text) e, (congrArg (fun z => z.scopes) e).symm, congrArg (fun z => z.kind) e, congrArg (fun z => z.number) e⟩
instance : Marks mkB cB := ⟨fun x n => by simp only [Yxn, Yih, Yj5, Yka], fun x n => by simp only [Ysm, Yxn, Yih, Yj5]⟩
theorem Y1ks (x : YB) : cB x <= 16 + 16 * wB x := by
 simp only [Ysm, Ytn, wS]
 omega
theorem Y1bc (L : List YB) : L.length <= Yhe cB L := Yv0 (fun x => by rw [Ysm]; omega) L
def cR (x : YR) : Nat := 0 + Yhe cY x.literals + Yhe cY x.patterns + Yhe cY x.templates
theorem Yvs (x : YR) : cR x = 0 + Yhe cY x.literals + Yhe cY x.patterns + Yhe cY x.templates := rfl
def mkR (x : YR) (n : Int) : YR := ⟨(Yhu mkY cY x.literals (n)), (Yhu mkY cY x.patterns (n + Yhe cY x.literals)), (Yhu mkY cY x.templates (n + Yhe cY x.literals + Yhe cY x.patterns))⟩
theorem Yyl (x : YR) (n : Int) : mkR x n = ⟨(Yhu mkY cY x.literals (n)), (Yhu mkY cY x.patterns (n + Yhe cY x.literals)), (Yhu mkY cY x.templates (n + Yhe cY x.literals + Yhe cY x.patterns))⟩ := rfl
theorem Y1al (x : YR) (n : Int) : Yhp (mkR x n) = [.list ((Yhu mkY cY x.literals (n)).map Yhd), .list ((Yhu mkY cY x.patterns (n + Yhe cY x.literals)).map Yhd), .list ((Yhu mkY cY x.templates (n + Yhe cY x.literals + Yhe cY x.patterns)).map Yhd)] := by rw [Yrn, Yyl]; rfl
theorem Y1gv {x : YR} {n : Int} (h : mkR x n = x) : Yhu mkY cY x.literals (n) = x.literals /\ Yhu mkY cY x.patterns (n + Yhe cY x.literals) = x.patterns /\ Yhu mkY cY x.templates (n + Yhe cY x.literals + Yhe cY x.patterns) = x.templates := by
 have e := h.symm; rw [Yyl] at e
 exact ⟨(congrArg (fun z => z.literals) e).symm, (congrArg (fun z => z.patterns) e).symm, (congrArg (fun z => z.templates) e).symm⟩
instance : Marks mkR cR := ⟨fun x n => by simp only [Yyl, Yih, Yj5, Yka], fun x n => by simp only [Yvs, Yyl, Yih, Yj5]⟩
theorem Y1ly (x : YR) : cR x <= 16 + 16 * wR x := by
 have b0 := Ym1 x.literals (fun y _ => Yy3 y)
 have b1 := Ym1 x.patterns (fun y _ => Yy3 y)
 have b2 := Ym1 x.templates (fun y _ => Yy3 y)
 simp only [Yvs, Ynv, wS]
 omega
mutual
def cP : YC -> Nat
 | ⟨name', depth', form', each'⟩ => 7 + name'.scopes.length + Yhe cY name'.items + form'.scopes.length + Yhe cY form'.items + cPs each'
def cPs : List YC -> Nat
 | [] => 0
 | x :: r => cP x + cPs r
end
theorem Y1d8 : ∀ l, cPs l = Yhe cP l
 | [] => by simp [cPs, Yhe]
 | x :: r => by rw [cPs, Y1d8 r, Yhe]
theorem Y1g0 (x : YC) : cP x = 7 + x.name.scopes.length + Yhe cY x.name.items + x.form.scopes.length + Yhe cY x.form.items + Yhe cP x.each := by cases x; simp only [cP, Y1d8]
mutual
def mkP : YC -> Int -> YC
 | ⟨name', depth', form', each'⟩, n => ⟨⟨n, (n + 1), (Yj7 (n + 1 + 1)), (Yhu mkI Yix name'.scopes (n + 1 + 1 + 1)), (Yhu mkY cY name'.items (n + 1 + 1 + 1 + name'.scopes.length))⟩, (n + 1 + 1 + 1 + name'.scopes.length + Yhe cY name'.items), ⟨(n + 1 + 1 + 1 + name'.scopes.length + Yhe cY name'.items + 1), (n + 1 + 1 + 1 + name'.scopes.length + Yhe cY name'.items + 1 + 1), (Yj7 (n + 1 + 1 + 1 + name'.scopes.length + Yhe cY name'.items + 1 + 1 + 1)), (Yhu mkI Yix form'.scopes (n + 1 + 1 + 1 + name'.scopes.length + Yhe cY name'.items + 1 + 1 + 1 + 1)), (Yhu mkY cY form'.items (n + 1 + 1 + 1 + name'.scopes.length + Yhe cY name'.items + 1 + 1 + 1 + 1 + form'.scopes.length))⟩, (Y14v each' (n + 1 + 1 + 1 + name'.scopes.length + Yhe cY name'.items + 1 + 1 + 1 + 1 + form'.scopes.length + Yhe cY form'.items))⟩
def Y14v : List YC -> Int -> List YC
 | [], _ => []
 | x :: r, n => mkP x n :: Y14v r (n + cP x)
end
theorem Y18h : ∀ l n, Y14v l n = Yhu mkP cP l n
 | [], n => by rw [Y14v, Yhu]
 | x :: r, n => by rw [Y14v, Yhu, Y18h r]
theorem Y15g (x : YC) (n : Int) : mkP x n = ⟨⟨n, (n + 1), (Yj7 (n + 1 + 1)), (Yhu mkI Yix x.name.scopes (n + 1 + 1 + 1)), (Yhu mkY cY x.name.items (n + 1 + 1 + 1 + x.name.scopes.length))⟩, (n + 1 + 1 + 1 + x.name.scopes.length + Yhe cY x.name.items), ⟨(n + 1 + 1 + 1 + x.name.scopes.length + Yhe cY x.name.items + 1), (n + 1 + 1 + 1 + x.name.scopes.length + Yhe cY x.name.items + 1 + 1), (Yj7 (n + 1 + 1 + 1 + x.name.scopes.length + Yhe cY x.name.items + 1 + 1 + 1)), (Yhu mkI Yix x.form.scopes (n + 1 + 1 + 1 + x.name.scopes.length + Yhe cY x.name.items + 1 + 1 + 1 + 1)), (Yhu mkY cY x.form.items (n + 1 + 1 + 1 + x.name.scopes.length + Yhe cY x.name.items + 1 + 1 + 1 + 1 + x.form.scopes.length))⟩, (Yhu mkP cP x.each (n + 1 + 1 + 1 + x.name.scopes.length + Yhe cY x.name.items + 1 + 1 + 1 + 1 + x.form.scopes.length + Yhe cY x.form.items))⟩ := by cases x; simp only [mkP, Y18h]
theorem Y18c : ∀ (x : YC) (n : Int), cP (mkP x n) = cP x := YC.ind (P := fun x => ∀ n, cP (mkP x n) = cP x) fun x ih n => by
 rw [Y1g0, Y1g0 x, Y15g]; simp only [Yih, Yj5]; rw [Yo9 x.each _ ih]
theorem Y1eb : ∀ (x : YC) (n : Int), mkP (mkP x n) n = mkP x n := YC.ind (P := fun x => ∀ n, mkP (mkP x n) n = mkP x n) fun x ih n => by
 rw [Y15g (mkP x n), Y15g x n]; simp only [Yih, Yj5, Yka]; rw [Ynb x.each _ (fun x _ => Y18c x) ih]
instance : Marks mkP cP := ⟨Y1eb, Y18c⟩
def cX (x : YE) : Nat := 3 + Yhe cB x.bindings + Yhe cR x.macros
theorem Y1kl (x : YE) : cX x = 3 + Yhe cB x.bindings + Yhe cR x.macros := rfl
def mkX (x : YE) (n : Int) : YE := ⟨(Yhu mkB cB x.bindings (n)), (Yhu mkR cR x.macros (n + Yhe cB x.bindings)), (n + Yhe cB x.bindings + Yhe cR x.macros), (n + Yhe cB x.bindings + Yhe cR x.macros + 1), (n + Yhe cB x.bindings + Yhe cR x.macros + 1 + 1)⟩
theorem Y1dr (x : YE) (n : Int) : mkX x n = ⟨(Yhu mkB cB x.bindings (n)), (Yhu mkR cR x.macros (n + Yhe cB x.bindings)), (n + Yhe cB x.bindings + Yhe cR x.macros), (n + Yhe cB x.bindings + Yhe cR x.macros + 1), (n + Yhe cB x.bindings + Yhe cR x.macros + 1 + 1)⟩ := rfl
instance : Marks mkX cX := ⟨fun x n => by simp only [Y1dr, Yih, Yj5, Yka], fun x n => by simp only [Y1kl, Y1dr, Yih, Yj5]⟩
def cM (x : Module) : Nat := 1 + x.imports.length + x.exports.length + Yhe cD x.body
theorem Y1kq (x : Module) : cM x = 1 + x.imports.length + x.exports.length + Yhe cD x.body := rfl
def mkM (x : Module) (n : Int) : Module := ⟨(Yj7 (n)), (Yhu mkT Yix x.imports (n + 1)), (Yhu mkT Yix x.exports (n + 1 + x.imports.length)), (Yhu mkD cD x.body (n + 1 + x.imports.length + x.exports.length))⟩
theorem Y1ck (x : Module) (n : Int) : mkM x n = ⟨(Yj7 (n)), (Yhu mkT Yix x.imports (n + 1)), (Yhu mkT Yix x.exports (n + 1 + x.imports.length)), (Yhu mkD cD x.body (n + 1 + x.imports.length + x.exports.length))⟩ := rfl
instance : Marks mkM cM := ⟨fun x n => by simp only [Y1ck, Yih, Yj5, Yka], fun x n => by simp only [Y1kq, Y1ck, Yih, Yj5]⟩
def cE (x : Export) : Nat := 4
theorem Y1l5 (x : Export) : cE x = 4 := rfl
def mkE (x : Export) (n : Int) : Export := ⟨(Yj7 (n)), (Yj7 (n + 1)), (n + 1 + 1), (n + 1 + 1 + 1)⟩
theorem Y1bi (x : Export) (n : Int) : mkE x n = ⟨(Yj7 (n)), (Yj7 (n + 1)), (n + 1 + 1), (n + 1 + 1 + 1)⟩ := rfl
instance : Marks mkE cE := ⟨fun x n => by simp only [Y1bi, Yih, Yj5, Yka], fun x n => by simp only [Y1l5, Y1bi, Yih, Yj5]⟩
def cU (x : Unit) : Nat := 6 + x.globals.length + x.body.params.length + Yhe cD x.body.datum.items + Yhe cC x.body.kids
theorem Y1la (x : Unit) : cU x = 6 + x.globals.length + x.body.params.length + Yhe cD x.body.datum.items + Yhe cC x.body.kids := rfl
def mkU (x : Unit) (n : Int) : Unit := ⟨(Yj7 (n)), (Yhu mkI Yix x.globals (n + 1)), ⟨(n + 1 + x.globals.length), (n + 1 + x.globals.length + 1), (Yhu mkI Yix x.body.params (n + 1 + x.globals.length + 1 + 1)), ⟨(n + 1 + x.globals.length + 1 + 1 + x.body.params.length), (n + 1 + x.globals.length + 1 + 1 + x.body.params.length + 1), (Yj7 (n + 1 + x.globals.length + 1 + 1 + x.body.params.length + 1 + 1)), (Yhu mkD cD x.body.datum.items (n + 1 + x.globals.length + 1 + 1 + x.body.params.length + 1 + 1 + 1))⟩, (Yhu mkC cC x.body.kids (n + 1 + x.globals.length + 1 + 1 + x.body.params.length + 1 + 1 + 1 + Yhe cD x.body.datum.items))⟩⟩
theorem Y1d6 (x : Unit) (n : Int) : mkU x n = ⟨(Yj7 (n)), (Yhu mkI Yix x.globals (n + 1)), ⟨(n + 1 + x.globals.length), (n + 1 + x.globals.length + 1), (Yhu mkI Yix x.body.params (n + 1 + x.globals.length + 1 + 1)), ⟨(n + 1 + x.globals.length + 1 + 1 + x.body.params.length), (n + 1 + x.globals.length + 1 + 1 + x.body.params.length + 1), (Yj7 (n + 1 + x.globals.length + 1 + 1 + x.body.params.length + 1 + 1)), (Yhu mkD cD x.body.datum.items (n + 1 + x.globals.length + 1 + 1 + x.body.params.length + 1 + 1 + 1))⟩, (Yhu mkC cC x.body.kids (n + 1 + x.globals.length + 1 + 1 + x.body.params.length + 1 + 1 + 1 + Yhe cD x.body.datum.items))⟩⟩ := rfl
instance : Marks mkU cU := ⟨fun x n => by simp only [Y1d6, Yih, Yj5, Yka], fun x n => by simp only [Y1la, Y1d6, Yih, Yj5]⟩
def cW (x : World) : Nat := 3 + Yhe cB x.expander.bindings + Yhe cR x.expander.macros + Yhe cU x.units + Yhe cE x.exports
theorem Y1kw (x : World) : cW x = 3 + Yhe cB x.expander.bindings + Yhe cR x.expander.macros + Yhe cU x.units + Yhe cE x.exports := rfl
def mkW (x : World) (n : Int) : World := ⟨⟨(Yhu mkB cB x.expander.bindings (n)), (Yhu mkR cR x.expander.macros (n + Yhe cB x.expander.bindings)), (n + Yhe cB x.expander.bindings + Yhe cR x.expander.macros), (n + Yhe cB x.expander.bindings + Yhe cR x.expander.macros + 1), (n + Yhe cB x.expander.bindings + Yhe cR x.expander.macros + 1 + 1)⟩, (Yhu mkU cU x.units (n + Yhe cB x.expander.bindings + Yhe cR x.expander.macros + 1 + 1 + 1)), (Yhu mkE cE x.exports (n + Yhe cB x.expander.bindings + Yhe cR x.expander.macros + 1 + 1 + 1 + Yhe cU x.units))⟩
theorem Y1co (x : World) (n : Int) : mkW x n = ⟨⟨(Yhu mkB cB x.expander.bindings (n)), (Yhu mkR cR x.expander.macros (n + Yhe cB x.expander.bindings)), (n + Yhe cB x.expander.bindings + Yhe cR x.expander.macros), (n + Yhe cB x.expander.bindings + Yhe cR x.expander.macros + 1), (n + Yhe cB x.expander.bindings + Yhe cR x.expander.macros + 1 + 1)⟩, (Yhu mkU cU x.units (n + Yhe cB x.expander.bindings + Yhe cR x.expander.macros + 1 + 1 + 1)), (Yhu mkE cE x.exports (n + Yhe cB x.expander.bindings + Yhe cR x.expander.macros + 1 + 1 + 1 + Yhe cU x.units))⟩ := rfl
instance : Marks mkW cW := ⟨fun x n => by simp only [Y1co, Yih, Yj5, Yka], fun x n => by simp only [Y1kw, Y1co, Yih, Yj5]⟩
end Go.Proofs.YtpnaoendfpaodaaGreat
end
