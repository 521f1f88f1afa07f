/- Part 4 of the machine. No condition. -/
import Derived.Test.YtpnaoendfpaodaaGreatQ3
import Derived.Test.YtpnaoendfpaodaaGreatRows
import Derived.ChangeStays
import Derived.ChangeOld
import Derived.Deep.Slices
set_option linter.unusedVariables false
set_option linter.unusedSimpArgs false
section
namespace Go.Proofs.YtpnaoendfpaodaaGreat
open Go Ab
theorem wide : Tryz.prog.follows .mixedOrders = true := by kernel_rfl
abbrev OK (c : Ct) : Prop := OKP Tryz.prog c
instance : CoeSort Ct Prop := ⟨OK⟩
instance : Coe Ct Prop := ⟨OK⟩
theorem Yhq {K : Ct} {fn : Func} (hc : ∀ xs w, (callFunc K.f xs).run Tryz.prog w = .ok (.enter K.f xs) w) (hf : Tryz.prog.funcs[K.f]? = some fn) (t : Tq Tryz.prog Unit) (he : Yhf t [] (.fn K.o1 K.r))
  (hb : fn.body = some (fn.body.getD .skip) := by kernel_rfl) (hr : Ylq Tryz.prog (fn.body.getD .skip) (Yvc K.o K.a fn.ntmps) (Ykv t noW [] (.fn K.o1 K.r)) (Y1fn Tryz.prog fn.results.toList K.o1 K.r) = Yk7 t [] (.fn K.o1 K.r) := by kernel_rfl) : OK K :=
 OKP.of wide hc hf hb t hr he
theorem Yhz {σ : Type} {c : Code} {L : Lp σ} (t : σ -> Tq Tryz.prog σ) (he : ∀ k, L.inv k -> Yhf (t k) [] (.lp L k))
  (hr : ∀ k, Ylq Tryz.prog c (L.T (L.v k)) (Ykv (t k) noW [] (.lp L k)) (Y19b L.I L.Y (L.meas k)) = Yk7 (t k) [] (.lp L k) := by intro k; kernel_rfl) : L.Sem Tryz.prog c :=
 Lp.Sem.of wide t hr he
theorem Yiu {α : Type} [Inhabited α] {L : List α} {k : Nat} (h : k < L.length) : L.drop k = L.getD k default :: L.drop (k + 1) := by
 rw [List.drop_eq_getElem_cons h]; simp [h]
theorem Yhy {α : Type} [Inhabited α] {L : List α} {k : Nat} (h : k < L.length) : L.take (k + 1) = L.take k ++ [L.getD k default] := by
 rw [List.take_succ_eq_append_getElem h]; simp [h]
theorem Yhj {α : Type} [Inhabited α] {L : List α} {k : Nat} (h : k < L.length) : L.getD k default ∈ L := by simp [h]
theorem Y1bt (s : ByteArray) : s.data.toList.length = s.size := rfl
theorem Y1aq {n : Int} : rng .i64 n ↔ -9223372036854775808 <= n /\ n <= 9223372036854775807 := Y1id
theorem Y1c7 (a b : List Ob) : Yvr a b ↔ a = b := Iff.rfl
theorem mIc {g g' : Int -> Int} (h : g = g') : mI g = mI g' := by rw [h]
theorem mOc {g g' : Int -> Option Int} (h : g = g') : mO g = mO g' := by rw [h]
theorem mSc {g g' : ByteArray -> Int} (h : g = g') : mS g = mS g' := by rw [h]
theorem mLc {g g' : ByteArray -> List Int} (h : g = g') : mL g = mL g' := by rw [h]
theorem Yhi (S : List Int) (n : Int) : S.map Yhd ++ [[cI n]] = (S ++ [n]).map Yhd := by simp [Yhd]
theorem Yhh (S : List ByteArray) (n : ByteArray) : S.map Yr2 ++ [[cS n]] = (S ++ [n]).map Yr2 := by simp [Yr2]
theorem Y1l4 {L : List Int} : ∀ e ∈ L.map Yhd, ∀ c ∈ e, ∃ v, c = Cell.lit v := by
 intro e he c hc
 obtain ⟨x, _, rfl⟩ := List.mem_map.1 he
 rw [List.mem_singleton.1 hc]; exact ⟨_, rfl⟩
theorem Y1lb {L : List ByteArray} : ∀ e ∈ L.map Yr2, ∀ c ∈ e, ∃ v, c = Cell.lit v := by
 intro e he c hc
 obtain ⟨x, _, rfl⟩ := List.mem_map.1 he
 rw [List.mem_singleton.1 hc]; exact ⟨_, rfl⟩
theorem Ylc {α : Type} [Inhabited α] {f : α -> List Cell} {L : List α} {i : Nat} {x : List Cell} (h : i < L.length) (hx : f (L.getD i default) = x) : (L.map f)[i]? = some x := by
 subst hx; simp [h]
theorem Yq8 {α : Type} [Inhabited α] {A B : List α} {k : Nat} (h : k < A.length) (hl : A.length = B.length) : A.take (k + 1) = B.take (k + 1) ↔ A.take k = B.take k /\ A.getD k default = B.getD k default := by
 rw [Yhy h, Yhy (by omega : k < B.length)]
 constructor
 ·intro e
  have := List.append_inj e (by simp; omega)
  exact ⟨this.1, by simpa using this.2⟩
 ·rintro ⟨e1, e2⟩; rw [e1, e2]
theorem Ykg (a b : ByteArray) : a.data.toList = b.data.toList ↔ a = b := by
 constructor
 ·intro h; cases a; cases b; simp at h; subst h; rfl
 ·intro h; rw [h]
theorem Y1jc (a b : Bool) : AV.sv (lb a) = AV.sv (lb b) ↔ a = b := by simp [lb, vB, cB]
theorem Y1kg (a b : Int) : AV.sv (li a) = AV.sv (li b) ↔ a = b := by simp [li, vI, cI]
theorem Y1jb (a b : ByteArray) : AV.sv (ls a) = AV.sv (ls b) ↔ a = b := by simp [ls, vS, cS]
def Yih {α : Type} [Inhabited α] (L : List α) (k : Nat) : List α := L.take k ++ List.replicate (L.length - k) default
theorem Y1ak {α : Type} [Inhabited α] (L : List α) (k : Nat) : (Yih L k).length = L.length := by simp [Yih]; omega
theorem Y16c {α : Type} [Inhabited α] (L : List α) : Yih L 0 = List.replicate L.length default := by simp [Yih]
theorem Yq6 {α : Type} [Inhabited α] (L : List α) {k : Nat} (h : L.length <= k) : Yih L k = L := by simp [Yih, List.take_of_length_le h, Nat.sub_eq_zero_of_le h]
theorem Y19h {α : Type} [Inhabited α] {L : List α} {k : Nat} (h : k < L.length) : (Yih L k).set k (L.getD k default) = Yih L (k + 1) := by
 unfold Yih
 rw [Yhy h, show L.length - k = L.length - (k + 1) + 1 by omega, List.replicate_succ, List.set_append_right _ _ (by simp; omega)]
 have : k - (List.take k L).length = 0 := by simp; omega
 rw [this]; simp
theorem Y1cr {α : Type} [Inhabited α] {f : α -> List Cell} {L : List α} {k : Nat} {c : List Cell} (h : k < L.length) (hx : f (L.getD k default) = c) :
  ((Yih L k).map f).set k c = (Yih L (k + 1)).map f := by
 subst hx; rw [<- List.map_set, Y19h h]
theorem Y1av {α : Type} [Inhabited α] {f : α -> List Cell} {L : List α} {c : List Cell} (hx : f default = c) : List.replicate L.length c = (Yih L 0).map f := by
 subst hx; simp [Y16c]
def Y1m9 (n : Int) : List Cell := [cI n]
def Y1mc (n : ByteArray) : List Cell := [cS n]
instance : Row Int Yhd Y1m9 1 := ⟨fun _ => rfl, fun _ => rfl⟩
instance : Row ByteArray Yr2 Y1mc 1 := ⟨fun _ => rfl, fun _ => rfl⟩
section
variable {α : Type} {C F : α -> List Cell} {n : Nat}
theorem Yki [Row α C F n] [Inhabited α] {L : List α} {i : Nat} (h : i < L.length) : (L.map C)[i]? = some (F (L.getD i default)) := Ylc h (Row.eq _)
theorem Yhe [Row α C F n] (L : List α) (x : α) : L.map C ++ [F x] = (L ++ [x]).map C := by simp [Row.eq (C := C) (F := F)]
theorem Y1ht [Row α C F n] {L : List α} : ∀ e ∈ L.map C, e.length = n := by
 intro e he
 obtain ⟨x, _, rfl⟩ := List.mem_map.1 he; rw [Row.eq (C := C) (F := F)]; exact Row.len (C := C) x
end
def mkS (l : List UInt8) : ByteArray := ⟨l.toArray⟩
theorem Y19x (l : List UInt8) : ByteArray.mk l.toArray = mkS l := rfl
theorem Y1it (l : List UInt8) : (mkS l).data.toList = l := rfl
theorem Y1hl (a b : List UInt8) : mkS a = mkS b ↔ a = b := by
 constructor
 ·intro h; have := congrArg (fun s : ByteArray => s.data.toList) h; simpa [mkS] using this
 ·intro h; rw [h]
theorem Y1ej (l : List UInt8) : (mkS l).size = l.length := rfl
theorem std : (∀ s : ByteArray, s.data.toList.length = s.size) /\ (∀ {α β : Type} (f : α -> β) (L : List α), (L.map f).length = L.length) /\ (∀ n : Nat, (n : Int).toNat = n) /\
  (∀ n : Int, rng .i64 n ↔ -9223372036854775808 <= n /\ n <= 9223372036854775807) /\ (∀ a b : List Ob, Yvr a b ↔ a = b) /\ (∀ {α : Type} (a b : List α), (a ++ b).length = a.length + b.length) /\
  (∀ {α : Type} (n : Nat) (a : α), (List.replicate n a).length = n) /\ (∀ {α : Type} [Inhabited α] (L : List α) (k : Nat), (Yih L k).length = L.length) /\ (∀ (p : Prop) [Decidable p], (decide p = true) = p) /\
  (∀ (p : Prop) [Decidable p], (decide p = false) = ¬ p) /\ (∀ {α : Type} (a b : α), (a ≠ b) = ¬ a = b) /\ (∀ a b : Bool, (AV.sv (lb a) = AV.sv (lb b)) ↔ a = b) /\ (∀ a b : Int, (AV.sv (li a) = AV.sv (li b)) ↔ a = b) /\
  (∀ a b : ByteArray, (AV.sv (ls a) = AV.sv (ls b)) ↔ a = b) /\ (∀ l : List UInt8, ByteArray.mk l.toArray = mkS l) /\ (∀ l : List UInt8, (mkS l).data.toList = l) /\ (∀ a b : List UInt8, mkS a = mkS b ↔ a = b) /\
  (∀ l : List UInt8, (mkS l).size = l.length) /\ (∀ {α β : Type} (f : α -> β) (L : List α) (n : Nat), (L.map f).take n = (L.take n).map f) /\ (∀ {α β : Type} (f : α -> β) (L : List α) (n : Nat), (L.map f).drop n = (L.drop n).map f) /\
  (∀ n : Nat, n - 0 = n) /\ (∀ {α : Type} (L : List α), L.drop 0 = L) :=
 ⟨Y1bt, fun _ _ => List.length_map _, Int.toNat_natCast, @Y1aq, Y1c7, fun _ _ => List.length_append, fun _ _ => List.length_replicate, Y1ak, @decide_eq_true_eq, fun p _ => propext (decide_eq_false_iff_not (p := p)), fun a b => rfl, Y1jc, Y1kg, Y1jb, Y19x, Y1it, Y1hl, Y1ej, fun _ _ _ => List.map_take.symm, fun _ _ _ => List.map_drop.symm, Nat.sub_zero, fun _ => List.drop_zero⟩
theorem inj : (∀ a b : SV, (AV.sv a = AV.sv b) = (a = b)) /\ (∀ l m : List SV, (AV.tup l = AV.tup m) = (l = m)) /\ (∀ l m : List AC, (SV.agg l = SV.agg m) = (l = m)) /\
  (∀ a b : AC, (SV.one a = SV.one b) = (a = b)) /\ (∀ a b : Int, (li a = li b) = (a = b)) /\ (∀ a b : Bool, (lb a = lb b) = (a = b)) /\ (∀ a b : ByteArray, (ls a = ls b) = (a = b)) /\
  (∀ a b : List (List Cell), (ll a = ll b) = (a = b)) /\ (∀ a b : Int, (vI a = vI b) = (a = b)) /\ (∀ a b : Bool, (vB a = vB b) = (a = b)) /\ (∀ a b : ByteArray, (vS a = vS b) = (a = b)) /\ (∀ a b : List (List Cell), (vL a = vL b) = (a = b)) /\
  (∀ o z x y, (Ob.arr o z x = Ob.arr o z y) = (x = y)) /\ (∀ l m, (Ob.box l = Ob.box m) = (l = m)) /\ (∀ (a b : AC) l m, (a :: l = b :: m) = (a = b /\ l = m)) /\ (∀ (a b : SV) l m, (a :: l = b :: m) = (a = b /\ l = m)) /\ (∀ (a b : Ob) l m, (a :: l = b :: m) = (a = b /\ l = m)) /\
  (∀ (a b : Hv) l m, (a :: l = b :: m) = (a = b /\ l = m)) /\ (∀ a b, (Hv.s a = Hv.s b) = (a = b)) /\ (∀ a b, (Hv.o a = Hv.o b) = (a = b)) /\ (∀ a b, (Hv.a a = Hv.a b) = (a = b)) := by
 refine ⟨?_, ?_, ?_, ?_, ?_, ?_, ?_, ?_, ?_, ?_, ?_, ?_, ?_, ?_, ?_, ?_, ?_, ?_, ?_, ?_, ?_⟩ <;> intros <;> (try apply propext) <;> simp [li, lb, ls, ll, vI, vB, vS, vL, cI, cB, cS]
theorem dT {p : Prop} [Decidable p] (h : p) : true = decide p := (decide_eq_true h).symm
theorem dF {p : Prop} [Decidable p] (h : ¬ p) : false = decide p := (decide_eq_false h).symm
theorem z {p : Prop} (h : p := by first | with_reducible rfl | omega | assumption | exact dT ‹_› | exact dF ‹_› | ((first | refine Yki ?_ | refine Ylc ?_ rfl); (first | omega | (simp only [std]; omega) | grind))) : p := h
theorem zR {p : Prop} (h : p := by first | exact Y1l4 | exact Y1lb | exact Y1ht) : p := h
theorem zM {p : Prop} (h : p := by first | exact Y1ia | exact Y1gn | exact Y1dy | exact Y1i1 | exact Y1ic | exact Y1iv | exact Y1k3 | exact Y1jf | exact Y1ix | exact Y1hn | (refine Y1bf ?_; grind)) : p := h
theorem zF {p : Prop} (h : p := by first | (refine Y1cr ?_ ?_; (first | omega | (simp only [std]; omega) | grind); (first | rfl | exact (Row.eq _).trans rfl)) | (refine Y1av ?_; (first | rfl | exact (Row.eq _).trans rfl))) : p := h
end Go.Proofs.YtpnaoendfpaodaaGreat
end
section
namespace Go.Proofs.YtpnaoendfpaodaaGreat
open Go Ab
def Yhb {α : Type} (f : α -> Nat) : List α -> Nat
 | [] => 0
 | x :: r => f x + Yhb f r
theorem Ykq {α : Type} (f : α -> Nat) : ∀ (a b : List α), Yhb f (a ++ b) = Yhb f a + Yhb f b
 | [], b => by simp [Yhb]
 | x :: a, b => by simp only [List.cons_append, Yhb, Ykq f a b]; omega
theorem Yxz {α : Type} [Inhabited α] (f : α -> Nat) {L : List α} {k : Nat} (h : k < L.length) : Yhb f (L.drop k) = f (L.getD k default) + Yhb f (L.drop (k + 1)) := by
 rw [Yiu h, Yhb]
theorem Yi4 {α : Type} (f : α -> Nat) : ∀ {L : List α} {x : α}, x ∈ L -> f x <= Yhb f L
 | y :: r, x, h => by
  rcases List.mem_cons.1 h with rfl | h
  ·simp only [Yhb]; omega
  ·have := Yi4 f h; simp only [Yhb]; omega
theorem Yjj {α : Type} [Inhabited α] (c : α -> Nat) {L : List α} {i : Nat} (h : i < L.length) : Yhb c (L.take (i + 1)) = Yhb c (L.take i) + c (L.getD i default) := by
 rw [Yhy h, Ykq]; simp [Yhb]
theorem Yiz {α : Type} (c : α -> Nat) (L : List α) (i : Nat) : Yhb c (L.take i) <= Yhb c L := by
 have := Ykq c (L.take i) (L.drop i)
 rw [List.take_append_drop] at this; omega
def wS (L : List ByteArray) : Nat := L.length + Yhb ByteArray.size L
theorem Ynb {α β : Type} [Inhabited β] (f : α -> β -> α) (a : α) {L : List β} {k : Nat} (h : k < L.length) : (L.take (k + 1)).foldl f a = f ((L.take k).foldl f a) (L.getD k default) := by
 rw [Yhy h, List.foldl_append]; rfl
structure Datum where
 kind : Int
 number : Int
 text : ByteArray
 items : List Datum
instance : Inhabited Datum := ⟨⟨0, 0, .empty, []⟩⟩
mutual
def Yni : Datum -> List Cell
 | ⟨kind', number', text', items'⟩ => [cI kind', cI number', cS text', .list (Ys5 items')]
def Ys5 : List Datum -> List (List Cell)
 | [] => []
 | x :: r => Yni x :: Ys5 r
end
theorem Yw1 : ∀ l : List Datum, Ys5 l = l.map Yni
 | [] => by rw [Ys5]; rfl
 | x :: r => by rw [Ys5, Yw1 r]; rfl
def Y165 (x : Datum) : List Cell := [cI x.kind, cI x.number, cS x.text, .list (x.items.map Yni)]
theorem Y1bx (x : Datum) : Yni x = Y165 x := by cases x; simp only [Yni, Y165, Yw1]
mutual
def Yzk : Datum -> Datum -> Bool
 | ⟨kind1, number1, text1, items1⟩, ⟨kind2, number2, text2, items2⟩ => decide (kind1 = kind2) && decide (number1 = number2) && decide (text1 = text2) && Ynz items1 items2
def Ynz : List Datum -> List Datum -> Bool
 | [], [] => true
 | x :: r, y :: t => Yzk x y && Ynz r t
 | _, _ => false
end
mutual
theorem Yw0 : ∀ a b : Datum, Yzk a b = true ↔ a = b
 | ⟨kind1, number1, text1, items1⟩, ⟨kind2, number2, text2, items2⟩ => by rw [Yzk]; simp only [Bool.and_eq_true, decide_eq_true_eq, Yus items1 items2, Datum.mk.injEq, and_assoc]
theorem Yus : ∀ a b : List Datum, Ynz a b = true ↔ a = b
 | [], [] => by simp [Ynz]
 | [], _ :: _ => by simp [Ynz]
 | _ :: _, [] => by simp [Ynz]
 | x :: r, y :: t => by rw [Ynz, Bool.and_eq_true, Yw0 x y, Yus r t, List.cons.injEq]
end
instance : DecidableEq Datum := fun a b => decidable_of_iff _ (Yw0 a b)
mutual
theorem Datum.ind {P : Datum -> Prop} (h : ∀ x, (∀ y ∈ x.items, P y) -> P x) : ∀ x, P x
 | ⟨kind', number', text', items'⟩ => h _ (fun y hy => Datum.inds h items' y hy)
theorem Datum.inds {P : Datum -> Prop} (h : ∀ x, (∀ y ∈ x.items, P y) -> P x) : ∀ (l : List Datum), ∀ y ∈ l, P y
 | [], y, hy => by cases hy
 | x :: r, y, hy => (List.mem_cons.1 hy).elim (fun e => e ▸ Datum.ind h x) (fun hy => Datum.inds h r y hy)
end
instance : Row Datum Yni Y165 4 := ⟨Y1bx, fun _ => rfl⟩
structure Core where
 kind : Int
 number : Int
 params : List Int
 datum : Datum
 kids : List Core
instance : Inhabited Core := ⟨⟨0, 0, [], (default : Datum), []⟩⟩
mutual
def Yt0 : Core -> List Cell
 | ⟨kind', number', params', datum', kids'⟩ => [cI kind', cI number', .list (params'.map Yhd), cI datum'.kind, cI datum'.number, cS datum'.text, .list (datum'.items.map Yni), .list (Yuf kids')]
def Yuf : List Core -> List (List Cell)
 | [] => []
 | x :: r => Yt0 x :: Yuf r
end
theorem Yxt : ∀ l : List Core, Yuf l = l.map Yt0
 | [] => by rw [Yuf]; rfl
 | x :: r => by rw [Yuf, Yxt r]; rfl
def Y19t (x : Core) : List Cell := [cI x.kind, cI x.number, .list (x.params.map Yhd), cI x.datum.kind, cI x.datum.number, cS x.datum.text, .list (x.datum.items.map Yni), .list (x.kids.map Yt0)]
theorem Y1fp (x : Core) : Yt0 x = Y19t x := by cases x; simp only [Yt0, Y19t, Yxt]
mutual
def Y152 : Core -> Core -> Bool
 | ⟨kind1, number1, params1, datum1, kids1⟩, ⟨kind2, number2, params2, datum2, kids2⟩ => decide (kind1 = kind2) && decide (number1 = number2) && decide (params1 = params2) && decide (datum1 = datum2) && Yp8 kids1 kids2
def Yp8 : List Core -> List Core -> Bool
 | [], [] => true
 | x :: r, y :: t => Y152 x y && Yp8 r t
 | _, _ => false
end
mutual
theorem Yxu : ∀ a b : Core, Y152 a b = true ↔ a = b
 | ⟨kind1, number1, params1, datum1, kids1⟩, ⟨kind2, number2, params2, datum2, kids2⟩ => by rw [Y152]; simp only [Bool.and_eq_true, decide_eq_true_eq, Yw7 kids1 kids2, Core.mk.injEq, and_assoc]
theorem Yw7 : ∀ a b : List Core, Yp8 a b = true ↔ a = b
 | [], [] => by simp [Yp8]
 | [], _ :: _ => by simp [Yp8]
 | _ :: _, [] => by simp [Yp8]
 | x :: r, y :: t => by rw [Yp8, Bool.and_eq_true, Yxu x y, Yw7 r t, List.cons.injEq]
end
instance : DecidableEq Core := fun a b => decidable_of_iff _ (Yxu a b)
mutual
theorem Core.ind {P : Core -> Prop} (h : ∀ x, (∀ y ∈ x.kids, P y) -> P x) : ∀ x, P x
 | ⟨kind', number', params', datum', kids'⟩ => h _ (fun y hy => Core.inds h kids' y hy)
theorem Core.inds {P : Core -> Prop} (h : ∀ x, (∀ y ∈ x.kids, P y) -> P x) : ∀ (l : List Core), ∀ y ∈ l, P y
 | [], y, hy => by cases hy
 | x :: r, y, hy => (List.mem_cons.1 hy).elim (fun e => e ▸ Core.ind h x) (fun hy => Core.inds h r y hy)
end
instance : Row Core Yt0 Y19t 8 := ⟨Y1fp, fun _ => rfl⟩
structure YS where
 kind : Int
 number : Int
 text : ByteArray
 scopes : List Int
 items : List YS
instance : Inhabited YS := ⟨⟨0, 0, .empty, [], []⟩⟩
mutual
def Yh9 : YS -> List Cell
 | ⟨kind', number', text', scopes', items'⟩ => [cI kind', cI number', cS text', .list (scopes'.map Yhd), .list (Yr3 items')]
def Yr3 : List YS -> List (List Cell)
 | [] => []
 | x :: r => Yh9 x :: Yr3 r
end
theorem Yup : ∀ l : List YS, Yr3 l = l.map Yh9
 | [] => by rw [Yr3]; rfl
 | x :: r => by rw [Yr3, Yup r]; rfl
def Yhg (x : YS) : List Cell := [cI x.kind, cI x.number, cS x.text, .list (x.scopes.map Yhd), .list (x.items.map Yh9)]
theorem Ykm (x : YS) : Yh9 x = Yhg x := by cases x; simp only [Yh9, Yhg, Yup]
mutual
def Yx7 : YS -> YS -> Bool
 | ⟨kind1, number1, text1, scopes1, items1⟩, ⟨kind2, number2, text2, scopes2, items2⟩ => decide (kind1 = kind2) && decide (number1 = number2) && decide (text1 = text2) && decide (scopes1 = scopes2) && Yn1 items1 items2
def Yn1 : List YS -> List YS -> Bool
 | [], [] => true
 | x :: r, y :: t => Yx7 x y && Yn1 r t
 | _, _ => false
end
mutual
theorem Yv8 : ∀ a b : YS, Yx7 a b = true ↔ a = b
 | ⟨kind1, number1, text1, scopes1, items1⟩, ⟨kind2, number2, text2, scopes2, items2⟩ => by rw [Yx7]; simp only [Bool.and_eq_true, decide_eq_true_eq, Yts items1 items2, YS.mk.injEq, and_assoc]
theorem Yts : ∀ a b : List YS, Yn1 a b = true ↔ a = b
 | [], [] => by simp [Yn1]
 | [], _ :: _ => by simp [Yn1]
 | _ :: _, [] => by simp [Yn1]
 | x :: r, y :: t => by rw [Yn1, Bool.and_eq_true, Yv8 x y, Yts r t, List.cons.injEq]
end
instance : DecidableEq YS := fun a b => decidable_of_iff _ (Yv8 a b)
mutual
theorem YS.ind {P : YS -> Prop} (h : ∀ x, (∀ y ∈ x.items, P y) -> P x) : ∀ x, P x
 | ⟨kind', number', text', scopes', items'⟩ => h _ (fun y hy => YS.inds h items' y hy)
theorem YS.inds {P : YS -> Prop} (h : ∀ x, (∀ y ∈ x.items, P y) -> P x) : ∀ (l : List YS), ∀ y ∈ l, P y
 | [], y, hy => by cases hy
 | x :: r, y, hy => (List.mem_cons.1 hy).elim (fun e => e ▸ YS.ind h x) (fun hy => YS.inds h r y hy)
end
theorem Y1d1 (a b : YS) : a = b ↔ a.kind = b.kind /\ a.number = b.number /\ a.text = b.text /\ a.scopes = b.scopes /\ a.items = b.items := by cases a; cases b; simp only [YS.mk.injEq]
instance : Row YS Yh9 Yhg 5 := ⟨Ykm, fun _ => rfl⟩
abbrev Yhu (x : YS) : SV := .agg (vals (Yhg x))
abbrev Yjx (x : YS) (i : Nat) : SV := .agg [vI x.kind, vI x.number, vS x.text, .ref (i + 0), .ref (i + 1)]
abbrev Yk5 (x : YS) : List Ob := [.arr true 1 (x.scopes.map Yhd), .arr true 5 (x.items.map Yh9)]
mutual
def wY : YS -> Nat
 | ⟨_, _, text', scopes', items'⟩ => text'.size + scopes'.length + wYs items'
def wYs : List YS -> Nat
 | [] => 0
 | d :: r => 1 + wY d + wYs r
end
theorem Y1cl : ∀ l, wYs l = l.length + Yhb wY l
 | [] => by simp [wYs, Yhb]
 | d :: r => by rw [wYs, Y1cl r]; simp only [Yhb, List.length_cons]; omega
theorem Yj6 (x : YS) : wY x = x.text.size + x.scopes.length + (x.items.length + Yhb wY x.items) := by cases x; simp only [wY, Y1cl]
structure YB where
 text : ByteArray
 scopes : List Int
 kind : Int
 number : Int
instance : Inhabited YB := ⟨⟨.empty, [], 0, 0⟩⟩
def Yhx (x : YB) : List Cell := [cS x.text, .list (x.scopes.map Yhd), cI x.kind, cI x.number]
def Yhc (x : YB) : List Cell := Yhx x
theorem Ypf (x : YB) : Yhc x = Yhx x := rfl
instance : DecidableEq YB := fun a b => by cases a; cases b; rw [YB.mk.injEq]; infer_instance
theorem Y1al (a b : YB) : a = b ↔ a.text = b.text /\ a.scopes = b.scopes /\ a.kind = b.kind /\ a.number = b.number := by cases a; cases b; simp only [YB.mk.injEq]
instance : Row YB Yhc Yhx 4 := ⟨Ypf, fun _ => rfl⟩
abbrev Ym5 (x : YB) : SV := .agg (vals (Yhx x))
abbrev Ywn (x : YB) (i : Nat) : SV := .agg [vS x.text, .ref (i + 0), vI x.kind, vI x.number]
abbrev Yx2 (x : YB) : List Ob := [.arr true 1 (x.scopes.map Yhd)]
def wB (x : YB) : Nat := x.text.size + x.scopes.length
theorem Ysh (x : YB) : wB x = x.text.size + x.scopes.length := rfl
structure YR where
 literals : List YS
 patterns : List YS
 templates : List YS
instance : Inhabited YR := ⟨⟨[], [], []⟩⟩
def Yix (x : YR) : List Cell := [.list (x.literals.map Yh9), .list (x.patterns.map Yh9), .list (x.templates.map Yh9)]
def Yhm (x : YR) : List Cell := Yix x
theorem Yr8 (x : YR) : Yhm x = Yix x := rfl
instance : DecidableEq YR := fun a b => by cases a; cases b; rw [YR.mk.injEq]; infer_instance
theorem Y1e9 (a b : YR) : a = b ↔ a.literals = b.literals /\ a.patterns = b.patterns /\ a.templates = b.templates := by cases a; cases b; simp only [YR.mk.injEq]
instance : Row YR Yhm Yix 3 := ⟨Yr8, fun _ => rfl⟩
abbrev Ymf (x : YR) : SV := .agg (vals (Yix x))
abbrev Y12n (x : YR) (i : Nat) : SV := .agg [.ref (i + 0), .ref (i + 1), .ref (i + 2)]
abbrev Y13z (x : YR) : List Ob := [.arr true 5 (x.literals.map Yh9), .arr true 5 (x.patterns.map Yh9), .arr true 5 (x.templates.map Yh9)]
def wR (x : YR) : Nat := (x.literals.length + Yhb wY x.literals) + (x.patterns.length + Yhb wY x.patterns) + (x.templates.length + Yhb wY x.templates)
theorem Ynp (x : YR) : wR x = (x.literals.length + Yhb wY x.literals) + (x.patterns.length + Yhb wY x.patterns) + (x.templates.length + Yhb wY x.templates) := rfl
structure YC where
 name : YS
 depth : Int
 form : YS
 each : List YC
instance : Inhabited YC := ⟨⟨(default : YS), 0, (default : YS), []⟩⟩
mutual
def Yha : YC -> List Cell
 | ⟨name', depth', form', each'⟩ => [cI name'.kind, cI name'.number, cS name'.text, .list (name'.scopes.map Yhd), .list (name'.items.map Yh9), cI depth', cI form'.kind, cI form'.number, cS form'.text, .list (form'.scopes.map Yhd), .list (form'.items.map Yh9), .list (Ypj each')]
def Ypj : List YC -> List (List Cell)
 | [] => []
 | x :: r => Yha x :: Ypj r
end
theorem Ytu : ∀ l : List YC, Ypj l = l.map Yha
 | [] => by rw [Ypj]; rfl
 | x :: r => by rw [Ypj, Ytu r]; rfl
def Yhw (x : YC) : List Cell := [cI x.name.kind, cI x.name.number, cS x.name.text, .list (x.name.scopes.map Yhd), .list (x.name.items.map Yh9), cI x.depth, cI x.form.kind, cI x.form.number, cS x.form.text, .list (x.form.scopes.map Yhd), .list (x.form.items.map Yh9), .list (x.each.map Yha)]
theorem Ynl (x : YC) : Yha x = Yhw x := by cases x; simp only [Yha, Yhw, Ytu]
mutual
def Yv3 : YC -> YC -> Bool
 | ⟨name1, depth1, form1, each1⟩, ⟨name2, depth2, form2, each2⟩ => decide (name1 = name2) && decide (depth1 = depth2) && decide (form1 = form2) && Ym8 each1 each2
def Ym8 : List YC -> List YC -> Bool
 | [], [] => true
 | x :: r, y :: t => Yv3 x y && Ym8 r t
 | _, _ => false
end
mutual
theorem Ytr : ∀ a b : YC, Yv3 a b = true ↔ a = b
 | ⟨name1, depth1, form1, each1⟩, ⟨name2, depth2, form2, each2⟩ => by rw [Yv3]; simp only [Bool.and_eq_true, decide_eq_true_eq, Ysa each1 each2, YC.mk.injEq, and_assoc]
theorem Ysa : ∀ a b : List YC, Ym8 a b = true ↔ a = b
 | [], [] => by simp [Ym8]
 | [], _ :: _ => by simp [Ym8]
 | _ :: _, [] => by simp [Ym8]
 | x :: r, y :: t => by rw [Ym8, Bool.and_eq_true, Ytr x y, Ysa r t, List.cons.injEq]
end
instance : DecidableEq YC := fun a b => decidable_of_iff _ (Ytr a b)
mutual
theorem YC.ind {P : YC -> Prop} (h : ∀ x, (∀ y ∈ x.each, P y) -> P x) : ∀ x, P x
 | ⟨name', depth', form', each'⟩ => h _ (fun y hy => YC.inds h each' y hy)
theorem YC.inds {P : YC -> Prop} (h : ∀ x, (∀ y ∈ x.each, P y) -> P x) : ∀ (l : List YC), ∀ y ∈ l, P y
 | [], y, hy => by cases hy
 | x :: r, y, hy => (List.mem_cons.1 hy).elim (fun e => e ▸ YC.ind h x) (fun hy => YC.inds h r y hy)
end
instance : Row YC Yha Yhw 12 := ⟨Ynl, fun _ => rfl⟩
structure YE where
 bindings : List YB
 macros : List YR
 scope : Int
 vari : Int
 steps : Int
instance : Inhabited YE := ⟨⟨[], [], 0, 0, 0⟩⟩
def Yis (x : YE) : List Cell := [.list (x.bindings.map Yhc), .list (x.macros.map Yhm), cI x.scope, cI x.vari, cI x.steps]
def Y10u (x : YE) : List Cell := Yis x
theorem Y14w (x : YE) : Y10u x = Yis x := rfl
instance : DecidableEq YE := fun a b => by cases a; cases b; rw [YE.mk.injEq]; infer_instance
theorem Y16h (a b : YE) : a = b ↔ a.bindings = b.bindings /\ a.macros = b.macros /\ a.scope = b.scope /\ a.vari = b.vari /\ a.steps = b.steps := by cases a; cases b; simp only [YE.mk.injEq]
instance : Row YE Y10u Yis 5 := ⟨Y14w, fun _ => rfl⟩
abbrev Yk1 (x : YE) : SV := .agg (vals (Yis x))
abbrev Yuz (x : YE) (i : Nat) : SV := .agg [.ref (i + 0), .ref (i + 1), vI x.scope, vI x.vari, vI x.steps]
abbrev Yu2 (x : YE) : List Ob := [.arr true 4 (x.bindings.map Yhc), .arr true 3 (x.macros.map Yhm)]
def wX (x : YE) : Nat := (x.bindings.length + Yhb wB x.bindings) + (x.macros.length + Yhb wR x.macros)
theorem Yli (x : YE) : wX x = (x.bindings.length + Yhb wB x.bindings) + (x.macros.length + Yhb wR x.macros) := rfl
structure Module where
 name : ByteArray
 imports : List ByteArray
 exports : List ByteArray
 body : List Datum
instance : Inhabited Module := ⟨⟨.empty, [], [], []⟩⟩
def Yzd (x : Module) : List Cell := [cS x.name, .list (x.imports.map Yr2), .list (x.exports.map Yr2), .list (x.body.map Yni)]
def Y17e (x : Module) : List Cell := Yzd x
theorem Y18y (x : Module) : Y17e x = Yzd x := rfl
instance : DecidableEq Module := fun a b => by cases a; cases b; rw [Module.mk.injEq]; infer_instance
instance : Row Module Y17e Yzd 4 := ⟨Y18y, fun _ => rfl⟩
structure Export where
 modul : ByteArray
 text : ByteArray
 kind : Int
 number : Int
instance : Inhabited Export := ⟨⟨.empty, .empty, 0, 0⟩⟩
def Yzo (x : Export) : List Cell := [cS x.modul, cS x.text, cI x.kind, cI x.number]
def Yzn (x : Export) : List Cell := Yzo x
theorem Y19v (x : Export) : Yzn x = Yzo x := rfl
instance : DecidableEq Export := fun a b => by cases a; cases b; rw [Export.mk.injEq]; infer_instance
instance : Row Export Yzn Yzo 4 := ⟨Y19v, fun _ => rfl⟩
structure Unit where
 name : ByteArray
 globals : List Int
 body : Core
instance : Inhabited Unit := ⟨⟨.empty, [], (default : Core)⟩⟩
def Y1a5 (x : Unit) : List Cell := [cS x.name, .list (x.globals.map Yhd), cI x.body.kind, cI x.body.number, .list (x.body.params.map Yhd), cI x.body.datum.kind, cI x.body.datum.number, cS x.body.datum.text, .list (x.body.datum.items.map Yni), .list (x.body.kids.map Yt0)]
def Y18z (x : Unit) : List Cell := Y1a5 x
theorem Y1f7 (x : Unit) : Y18z x = Y1a5 x := rfl
instance : DecidableEq Unit := fun a b => by cases a; cases b; rw [Unit.mk.injEq]; infer_instance
instance : Row Unit Y18z Y1a5 10 := ⟨Y1f7, fun _ => rfl⟩
structure World where
 expander : YE
 units : List Unit
 exports : List Export
instance : Inhabited World := ⟨⟨(default : YE), [], []⟩⟩
def Y14f (x : World) : List Cell := [.list (x.expander.bindings.map Yhc), .list (x.expander.macros.map Yhm), cI x.expander.scope, cI x.expander.vari, cI x.expander.steps, .list (x.units.map Y18z), .list (x.exports.map Yzn)]
def Y1b3 (x : World) : List Cell := Y14f x
theorem Y1d4 (x : World) : Y1b3 x = Y14f x := rfl
instance : DecidableEq World := fun a b => by cases a; cases b; rw [World.mk.injEq]; infer_instance
instance : Row World Y1b3 Y14f 7 := ⟨Y1d4, fun _ => rfl⟩
def sz (w : Nat) (left : Int) : Int := if (w : Int) <= left then left - w else -1
def Yje {α : Type} (f : α -> Nat) : List α -> Nat
 | [] => 0
 | x :: r => max (f x) (Yje f r)
theorem Yqp {α : Type} (f : α -> Nat) : ∀ (a b : List α), Yje f (a ++ b) = max (Yje f a) (Yje f b)
 | [], b => by simp [Yje]
 | x :: a, b => by simp only [List.cons_append, Yje, Yqp f a b]; omega
theorem Y19k {α : Type} [Inhabited α] (c : α -> Nat) {L : List α} {i : Nat} (h : i < L.length) : Yje c (L.take (i + 1)) = max (Yje c (L.take i)) (c (L.getD i default)) := by
 rw [Yhy h, Yqp]; simp [Yje]
theorem Yv6 {α : Type} (f : α -> Nat) : ∀ {L : List α} {x : α}, x ∈ L -> f x <= Yje f L
 | y :: r, x, h => by
  rcases List.mem_cons.1 h with rfl | h
  ·simp only [Yje]; omega
  ·have := Yv6 f h; simp only [Yje]; omega
theorem Y14x {α : Type} (f : α -> Nat) {m : Nat} : ∀ {L : List α}, Yje f L <= m ↔ ∀ x ∈ L, f x <= m
 | [] => by simp [Yje]
 | x :: r => by
  have h := Y14x f (m := m) (L := r)
  simp only [Yje, List.forall_mem_cons, <- h]; omega
def Yj5 {α : Type} (f : α -> Int -> Bool × Int) : List α -> Int -> Bool × Int
 | [], m => (true, m)
 | x :: r, m => if (f x m).1 then Yj5 f r (f x m).2 else (false, (f x m).2)
theorem Yrs {α : Type} (f : α -> Int -> Bool × Int) : ∀ (a b : List α) (m : Int), Yj5 f (a ++ b) m = if (Yj5 f a m).1 then Yj5 f b (Yj5 f a m).2 else Yj5 f a m
 | [], b, m => by simp [Yj5]
 | x :: a, b, m => by
  simp only [List.cons_append, Yj5]
  by_cases e : (f x m).1 = true
  ·simp only [if_pos e]; exact Yrs f a b _
  ·simp only [if_neg e]; rfl
theorem Y11c {α : Type} [Inhabited α] (f : α -> Int -> Bool × Int) {L : List α} {k : Nat} (h : k < L.length) (m : Int) (ht : (Yj5 f (L.take k) m).1 = true) : Yj5 f (L.take (k + 1)) m = f (L.getD k default) (Yj5 f (L.take k) m).2 := by
 rw [Yhy h, Yrs, if_pos ht]
 simp only [Yj5]
 cases e : (f (L.getD k default) (Yj5 f (L.take k) m).2).1 with
 | true => simp only [if_true]; rw [<- e]
 | false => simp only [Bool.false_eq_true, if_false]; rw [<- e]
theorem Y1by {α : Type} [Inhabited α] (f : α -> Int -> Bool × Int) {L : List α} {k : Nat} (h : k < L.length) (m : Int) (ht : (Yj5 f (L.take k) m).1 = true) (hf : (f (L.getD k default) (Yj5 f (L.take k) m).2).1 = false) : Yj5 f L m = f (L.getD k default) (Yj5 f (L.take k) m).2 := by
 have h1 := Y11c f h m ht
 have h2 := Yrs f (L.take (k + 1)) (L.drop (k + 1)) m
 rw [List.take_append_drop, h1, hf] at h2
 rw [h2]; rfl
theorem Y18m {α : Type} (f : α -> Int -> Bool × Int) (w : α -> Nat) (P : α -> Prop) (M : Int) : ∀ (L : List α), (∀ x ∈ L, ∀ m, m <= M -> ((f x m).1 = true ↔ (m + w x <= M /\ P x)) /\ ((f x m).1 = true -> (f x m).2 = m + w x)) ->
  ∀ m, m <= M -> ((Yj5 f L m).1 = true ↔ (m + Yhb w L <= M /\ ∀ x ∈ L, P x)) /\ ((Yj5 f L m).1 = true -> (Yj5 f L m).2 = m + Yhb w L)
 | [], _, m, hm => by simp [Yj5, Yhb, hm]
 | x :: r, hL, m, hm => by
  have h1 := hL x List.mem_cons_self m hm
  simp only [Yj5, Yhb, List.forall_mem_cons]
  cases e : (f x m).1 with
  | true =>
   have h2 := h1.1.1 e
   have h3 := h1.2 e
   have h4 := Y18m f w P M r (fun y hy => hL y (List.mem_cons_of_mem _ hy)) (m + w x) h2.1
   simp only [if_true, h3]
   constructor
   ·rw [h4.1]; constructor
    ·rintro ⟨a, b⟩; exact ⟨by omega, h2.2, b⟩
    ·rintro ⟨a, _, b⟩; exact ⟨by omega, b⟩
   ·intro ht; rw [h4.2 ht]; omega
  | false =>
   simp only [Bool.false_eq_true, if_false, false_iff]
   refine ⟨?_, False.elim⟩
   rintro ⟨a, b, _⟩
   have := h1.1.2 ⟨by omega, b⟩
   rw [e] at this; exact Bool.noConfusion this
theorem Y1m1 {L : List UInt8} {k : Nat} (h : k < L.length) : L.take (k + 1) = L.take k ++ [L.getD k 0] := by
 rw [List.take_succ_eq_append_getElem h]; simp [h]
theorem Y10p {α : Type} {f g : α -> Nat} : ∀ {L : List α}, (∀ x ∈ L, f x <= g x) -> Yje f L <= Yhb g L
 | [], _ => Nat.le_refl _
 | x :: l, h => by
  have h1 := h x List.mem_cons_self
  have h2 := Y10p (L := l) fun y hy => h y (List.mem_cons_of_mem _ hy)
  simp only [Yhb, Yje]; omega
end Go.Proofs.YtpnaoendfpaodaaGreat
end
section
namespace Go.Proofs.YtpnaoendfpaodaaGreat
open Go Go.Proofs.YtpnaoendfpaodaaGreat.Ab Go.ChangeShapes
section
variable {H : Type} {enc : TypeId × Value -> H} {P : Program} {w : Go.World} {sp : Nat -> Bool} {hd : Bool} {fuel : Nat} {cs : List Value} {x : DataW H × List MemPlace}
abbrev Old (w : Go.World) (b : Nat) : Prop := b < w.heap.size
theorem Yom {t : TypeId} {k : IntKind} (ht : P.underlying t = some (.int k)) (h : DataW.trod enc P w 0 sp hd fuel t cs = some x) : ∃ n : Int, Yhv (Rd w (Old w)) cs [.lit (.int k n)] := by
 obtain ⟨n, rfl, _⟩ := DataW.trod_int ht h
 exact ⟨n, .lit trivial, trivial⟩
theorem Y11h {t : TypeId} (ht : P.underlying t = some .string) (h : DataW.trod enc P w 0 sp hd fuel t cs = some x) : ∃ s : ByteArray, Yhv (Rd w (Old w)) cs [.lit (.string s)] := by
 obtain ⟨s, rfl, _, hs⟩ := DataW.trod_string ht h
 exact ⟨s, .lit hs, trivial⟩
theorem Yn4 {α : Type} [Inhabited α] {C : α -> List Cell} {t e : TypeId} (ht : P.underlying t = some (.slice e)) (hpos : 0 < P.cellsOf e)
  (hC : ∀ a, (C a).length = P.cellsOf e)
  (hel : ∀ n, n < fuel -> ∀ (cs : List Value) (x : DataW H × List MemPlace), DataW.trod enc P w 0 sp hd n e cs = some x -> ∃ a, Yhv (Rd w (Old w)) cs (C a))
  (h : DataW.trod enc P w 0 sp hd fuel t cs = some x) : ∃ L : List α, Yhv (Rd w (Old w)) cs [.list (L.map C)] := by
 rcases DataW.trod_slice ht h with ⟨rfl, _⟩ | ⟨a, len, cap, elems, rest, n, hn, rfl, _, _, hl, hm, hlen, hel2, _, _⟩
 ·exact ⟨[], Rd.nil, trivial⟩
 have hone : ∀ i, i < len -> ∃ p : List Value × α, w.cells? 0 (a.add (i * P.cellsOf e)) (P.cellsOf e) = some p.1 /\ Yhv (Rd w (Old w)) p.1 (C p.2) := by
  intro i hi
  have hb := hel2 i hi
  rw [List.getElem?_eq_getElem (by omega)] at hb
  obtain ⟨cs', h1, h2⟩ := Option.bind_eq_some_iff.1 hb
  obtain ⟨y, hy⟩ := hel n (by omega) cs' _ h2
  exact ⟨(cs', y), h1, hy⟩
 obtain ⟨f, hf⟩ := Go.Deep.choose_lt hone
 let L : List α := (List.range len).map fun i => (f i).2
 have hL : L.length = len := by simp [L]
 rcases Nat.eq_zero_or_pos len with h0 | h0
 ·subst h0
  have : L = [] := by simp [L]
  exact ⟨[], Rd.nil, trivial⟩
 have hcell : ∀ i k, i < len -> k < P.cellsOf e -> ∃ v c, w.cell? (a.add (i * P.cellsOf e + k)) = some v /\ (C (f i).2)[k]? = some c /\ Rd w (Old w) v c := by
  intro i k hi hk
  obtain ⟨h1, h2⟩ := hf i hi
  obtain ⟨_, h3, h4⟩ := Go.World.cells?_some h1
  have h5 := h4 k hk
  rw [Go.Deep.add_add] at h5
  have h6 : k < (f i).1.length := by omega
  rw [List.getElem?_eq_getElem h6] at h5
  have h7 : k < (C (f i).2).length := by rw [hC]; exact hk
  exact ⟨_, _, h5, List.getElem?_eq_getElem h7, h2.get (List.getElem?_eq_getElem h6) (List.getElem?_eq_getElem h7)⟩
 have hspot : a.spot = none := by
  obtain ⟨v, _, h1, _⟩ := hcell 0 0 h0 hpos
  simp only [Nat.zero_mul, Nat.add_zero, Addr.add, if_true] at h1
  unfold Go.World.cell? at h1
  split at h1
  ·split at h1
   ·cases h1
   ·rename_i hs; simpa using hs
  ·cases h1
 have haddr : ∀ j, a.add j = ⟨a.block, a.off + j, none⟩ := by
  intro j
  unfold Addr.add
  split
  ·rename_i hj; subst hj; cases a; simp_all
  ·rfl
 have hblk : a.block < w.heap.size := by
  obtain ⟨v, _, h1, _⟩ := hcell 0 0 h0 hpos
  unfold Go.World.cell? at h1
  rw [haddr] at h1
  simp only at h1
  cases hh : w.heap[a.block]? with
  | none => rw [hh] at h1; cases h1
  | some o => exact (Array.getElem?_eq_some_iff.1 hh).1
 refine ⟨L, ?_, trivial⟩
 have hval : (Value.slice (some a) len cap) = .slice (some ⟨a.block, a.off, none⟩) (L.map C).length cap := by
  rw [List.length_map, hL]; cases a; simp_all
 rw [hval]
 have hszL : ∀ es ∈ L.map C, es.length = P.cellsOf e := by
  intro es hes; obtain ⟨y, _, rfl⟩ := List.mem_map.1 hes; exact hC y
 have hflat : (L.map C).flatten.length = len * P.cellsOf e := by rw [Yiy hszL, List.length_map, hL]
 refine Rd.slice (sz := P.cellsOf e) (xs := (List.range (len * P.cellsOf e)).map fun j => (w.cell? (a.add j)).getD undef) hblk (by rw [List.length_map, hL]; exact hl) hm hszL (by rw [hflat]; simp) ?_ ?_
 ·intro j u hu
  have hj : j < len * P.cellsOf e := by
   have := (List.getElem?_eq_some_iff.1 hu).1; simpa using this
  simp only [List.getElem?_map, List.getElem?_range hj, Option.map_some, Option.some.injEq] at hu
  obtain ⟨v, _, h1, _⟩ := hcell (j / P.cellsOf e) (j % P.cellsOf e) (Nat.div_lt_of_lt_mul (by rw [Nat.mul_comm]; exact hj)) (Nat.mod_lt _ hpos)
  have hdm : j / P.cellsOf e * P.cellsOf e + j % P.cellsOf e = j := by rw [Nat.mul_comm]; exact Nat.div_add_mod j _
  rw [hdm] at h1
  rw [h1] at hu
  rw [<- haddr, h1]
  simpa using hu
 ·intro j u c hu hc
  have hj : j < len * P.cellsOf e := by
   have := (List.getElem?_eq_some_iff.1 hu).1; simpa using this
  simp only [List.getElem?_map, List.getElem?_range hj, Option.map_some, Option.some.injEq] at hu
  have hi : j / P.cellsOf e < len := Nat.div_lt_of_lt_mul (by rw [Nat.mul_comm]; exact hj)
  obtain ⟨v, c', h1, h2, h3⟩ := hcell (j / P.cellsOf e) (j % P.cellsOf e) hi (Nat.mod_lt _ hpos)
  have hdm : j / P.cellsOf e * P.cellsOf e + j % P.cellsOf e = j := by rw [Nat.mul_comm]; exact Nat.div_add_mod j _
  rw [hdm] at h1
  rw [h1] at hu
  have hLi : (L.map C)[j / P.cellsOf e]? = some (C (f (j / P.cellsOf e)).2) := by simp [L, hi]
  have := Ykn hszL hLi h2
  rw [hdm, hc] at this
  simp only [Option.some.injEq] at this
  subst this
  simp only [Option.getD_some] at hu
  subst hu
  exact h3
theorem seg {R : Value -> Cell -> Prop} {cs : List Value} {k n m : Nat} {a b : List Cell} (h1 : Yhv R ((cs.drop k).take n) a) (h2 : Yhv R (cs.drop m) b) (e : k + n = m) : Yhv R (cs.drop k) (a ++ b) := by
 subst e
 have := h1.append h2
 rwa [<- List.drop_drop, List.take_append_drop] at this
theorem Yyi {R : Value -> Cell -> Prop} {cs : List Value} {n : Nat} (h : cs.length = n) : Yhv R (cs.drop n) [] := by
 rw [List.drop_of_length_le (by omega)]; trivial
theorem Yj4 {fs : Array Field} {xs : List (DataW H × List MemPlace)} {n : Nat} (hlen : xs.length = fs.size)
  (h : ∀ (i : Nat) (f : Field), fs[i]? = some f -> DataW.trod enc P w 0 sp hd n f.type ((cs.drop f.offset).take (P.cellsOf f.type)) = xs[i]?) (i : Nat) {f : Field} (hf : fs[i]? = some f) :
  ∃ y, DataW.trod enc P w 0 sp hd n f.type ((cs.drop f.offset).take (P.cellsOf f.type)) = some y := by
 have hi : i < fs.size := (Array.getElem?_eq_some_iff.1 hf).1
 exact ⟨xs[i]'(by omega), by rw [h i f hf]; exact List.getElem?_eq_getElem _⟩
theorem Y16p {W W' : Go.World} (hk : W.kept W') {p : MemPlace} (hp : p.block < W.heap.size) : W.sameAt W' p := by
 cases p with
 | cell b off => exact Yl6 (hk.2.2 b hp)
 | map b => exact hk.2.2 b hp
theorem Yuh {W W' : Go.World} (hl : laidOutB P = true) (hmr : mapsRowed P = true) (hsz : ((List.range P.types.size).all fun t => match P.underlying t with | some (.slice e) => decide (0 < P.cellsOf e) | _ => true) = true)
  (hk : W.kept W') {sp : Nat -> Bool} : ∀ {ts : List TypeId} {vs : List Value} {ds : List (DataW H)} {ps : List MemPlace}, (∀ t ∈ ts, t < P.types.size) -> DataW.TrodAll enc P W 0 (fun _ => true) true ts vs ds ps -> (∀ p ∈ ps, sp p.block = true) ->
   DataW.TrodAll enc P W' 0 sp true ts vs ds ps
 | [], [], [], ps, _, h, _ => h
 | t :: ts, v :: vs, d :: ds, ps, ht, ⟨p, q, ⟨fuel, hf⟩, h2, e⟩, hs => by
  subst e
  have hlt := DataW.trod_lt _ _ _ _ hf
  refine ⟨p, q, ⟨fuel, DataW.trod_stays (kids_rows hl hmr) (fun {t e} ht hu => ?_) (fun hh => by cases hh) (ht t List.mem_cons_self) hf (fun y hy => Y16p hk (hlt y hy)) (fun y hy => hs y (List.mem_append_left _ hy))⟩,
   Yuh hl hmr hsz hk (fun t ht' => ht t (List.mem_cons_of_mem _ ht')) h2 (fun y hy => hs y (List.mem_append_right _ hy)), rfl⟩
  have := List.all_eq_true.1 hsz t (List.mem_range.2 ht)
  rw [hu] at this
  simpa using this
 | [], _ :: _, _, _, _, h, _ => h.elim
 | [], [], _ :: _, _, _, h, _ => h.elim
 | _ :: _, [], _, _, _, h, _ => h.elim
 | _ :: _, _ :: _, [], _, _, h, _ => h.elim
theorem Y16r {W : Go.World} {v : Value} {cs : List Cell} (h : ∃ arr, v = .agg arr) (hc : Yhv (Rd W (Old W)) v.cells.toList cs) : Yiq W (Yzb W) (Yj9 []) (.agg (vals cs)) v := by
 obtain ⟨arr, rfl⟩ := h
 refine ⟨arr, rfl, ?_⟩
 have : (Value.agg arr).cells = arr := rfl
 rw [this] at hc
 exact Yhv.map_left _ (hc.flip.imp fun c u hr => ⟨hr, hr.one⟩) |>.imp fun _ _ h => h
end
end Go.Proofs.YtpnaoendfpaodaaGreat
end
section
namespace Go.Proofs.YtpnaoendfpaodaaGreat
open Go Go.Proofs.YtpnaoendfpaodaaGreat.Ab Go.ChangeShapes
set_option maxRecDepth 100000
section
variable {H : Type} {enc : TypeId × Value -> H} {w : Go.World} {sp : Nat -> Bool} {hd : Bool}
theorem Yrn : ∀ (fuel : Nat) (cs : List Value) (x : DataW H × List MemPlace), DataW.trod enc Tryz.prog w 0 sp hd fuel 29 cs = some x -> ∃ a : YS, Yhv (Rd w (Old w)) cs (Yhg a) := by
 intro fuel
 induction fuel using Nat.strongRecOn with | _ fuel ih =>
 intro cs x h
 obtain ⟨xs, n, rfl, _, hlen, hxs, hf⟩ := DataW.trod_struct Tryz.underlying29 h
 have hlen : cs.length = 5 := hlen.trans (by kernel_rfl)
 obtain ⟨y0, h0⟩ := Yj4 hxs hf 0 (by rfl)
 obtain ⟨a0, r0⟩ := Yom Tryz.underlying3 h0
 obtain ⟨y1, h1⟩ := Yj4 hxs hf 1 (by rfl)
 obtain ⟨a1, r1⟩ := Yom Tryz.underlying3 h1
 obtain ⟨y2, h2⟩ := Yj4 hxs hf 2 (by rfl)
 obtain ⟨a2, r2⟩ := Y11h Tryz.underlying9 h2
 obtain ⟨y3, h3⟩ := Yj4 hxs hf 3 (by rfl)
 obtain ⟨a3, r3⟩ := Yn4 (C := Yhd) Tryz.underlying26 (by rw [show Tryz.prog.cellsOf 3 = 1 from by kernel_rfl]; decide) (fun a => by kernel_rfl) (fun m hm cs x h => Yom Tryz.underlying3 h) h3
 obtain ⟨y4, h4⟩ := Yj4 hxs hf 4 (by rfl)
 obtain ⟨a4, r4⟩ := Yn4 (C := Yh9) Tryz.underlying27 (by rw [show Tryz.prog.cellsOf 29 = 5 from by kernel_rfl]; decide) (fun a => by rw [Ykm]; kernel_rfl) (fun m hm cs x h => by obtain ⟨a, ha⟩ := ih m (by omega) cs x h; exact ⟨a, by rw [Ykm]; exact ha⟩) h4
 exact ⟨⟨a0, a1, a2, a3, a4⟩, seg r0 (seg r1 (seg r2 (seg r3 (seg r4 (Yyi hlen) (by kernel_rfl)) (by kernel_rfl)) (by kernel_rfl)) (by kernel_rfl)) (by kernel_rfl)⟩
theorem Y1ai : ∀ (fuel : Nat) (cs : List Value) (x : DataW H × List MemPlace), DataW.trod enc Tryz.prog w 0 sp hd fuel 148 cs = some x -> ∃ a : YB, Yhv (Rd w (Old w)) cs (Yhx a) := by
 intro fuel
 induction fuel using Nat.strongRecOn with | _ fuel ih =>
 intro cs x h
 obtain ⟨xs, n, rfl, _, hlen, hxs, hf⟩ := DataW.trod_struct Tryz.underlying148 h
 have hlen : cs.length = 4 := hlen.trans (by kernel_rfl)
 obtain ⟨y0, h0⟩ := Yj4 hxs hf 0 (by rfl)
 obtain ⟨a0, r0⟩ := Y11h Tryz.underlying9 h0
 obtain ⟨y1, h1⟩ := Yj4 hxs hf 1 (by rfl)
 obtain ⟨a1, r1⟩ := Yn4 (C := Yhd) Tryz.underlying26 (by rw [show Tryz.prog.cellsOf 3 = 1 from by kernel_rfl]; decide) (fun a => by kernel_rfl) (fun m hm cs x h => Yom Tryz.underlying3 h) h1
 obtain ⟨y2, h2⟩ := Yj4 hxs hf 2 (by rfl)
 obtain ⟨a2, r2⟩ := Yom Tryz.underlying3 h2
 obtain ⟨y3, h3⟩ := Yj4 hxs hf 3 (by rfl)
 obtain ⟨a3, r3⟩ := Yom Tryz.underlying3 h3
 exact ⟨⟨a0, a1, a2, a3⟩, seg r0 (seg r1 (seg r2 (seg r3 (Yyi hlen) (by kernel_rfl)) (by kernel_rfl)) (by kernel_rfl)) (by kernel_rfl)⟩
theorem Y1e1 : ∀ (fuel : Nat) (cs : List Value) (x : DataW H × List MemPlace), DataW.trod enc Tryz.prog w 0 sp hd fuel 31 cs = some x -> ∃ a : YR, Yhv (Rd w (Old w)) cs (Yix a) := by
 intro fuel
 induction fuel using Nat.strongRecOn with | _ fuel ih =>
 intro cs x h
 obtain ⟨xs, n, rfl, _, hlen, hxs, hf⟩ := DataW.trod_struct Tryz.underlying31 h
 have hlen : cs.length = 3 := hlen.trans (by kernel_rfl)
 obtain ⟨y0, h0⟩ := Yj4 hxs hf 0 (by rfl)
 obtain ⟨a0, r0⟩ := Yn4 (C := Yh9) Tryz.underlying27 (by rw [show Tryz.prog.cellsOf 29 = 5 from by kernel_rfl]; decide) (fun a => by rw [Ykm]; kernel_rfl) (fun m hm cs x h => by obtain ⟨a, ha⟩ := Yrn m cs x h; exact ⟨a, by rw [Ykm]; exact ha⟩) h0
 obtain ⟨y1, h1⟩ := Yj4 hxs hf 1 (by rfl)
 obtain ⟨a1, r1⟩ := Yn4 (C := Yh9) Tryz.underlying27 (by rw [show Tryz.prog.cellsOf 29 = 5 from by kernel_rfl]; decide) (fun a => by rw [Ykm]; kernel_rfl) (fun m hm cs x h => by obtain ⟨a, ha⟩ := Yrn m cs x h; exact ⟨a, by rw [Ykm]; exact ha⟩) h1
 obtain ⟨y2, h2⟩ := Yj4 hxs hf 2 (by rfl)
 obtain ⟨a2, r2⟩ := Yn4 (C := Yh9) Tryz.underlying27 (by rw [show Tryz.prog.cellsOf 29 = 5 from by kernel_rfl]; decide) (fun a => by rw [Ykm]; kernel_rfl) (fun m hm cs x h => by obtain ⟨a, ha⟩ := Yrn m cs x h; exact ⟨a, by rw [Ykm]; exact ha⟩) h2
 exact ⟨⟨a0, a1, a2⟩, seg r0 (seg r1 (seg r2 (Yyi hlen) (by kernel_rfl)) (by kernel_rfl)) (by kernel_rfl)⟩
theorem Y16n : ∀ (fuel : Nat) (cs : List Value) (x : DataW H × List MemPlace), DataW.trod enc Tryz.prog w 0 sp hd fuel 25 cs = some x -> ∃ a : YE, Yhv (Rd w (Old w)) cs (Yis a) := by
 intro fuel
 induction fuel using Nat.strongRecOn with | _ fuel ih =>
 intro cs x h
 obtain ⟨xs, n, rfl, _, hlen, hxs, hf⟩ := DataW.trod_struct Tryz.underlying25 h
 have hlen : cs.length = 5 := hlen.trans (by kernel_rfl)
 obtain ⟨y0, h0⟩ := Yj4 hxs hf 0 (by rfl)
 obtain ⟨a0, r0⟩ := Yn4 (C := Yhc) Tryz.underlying22 (by rw [show Tryz.prog.cellsOf 148 = 4 from by kernel_rfl]; decide) (fun a => by rw [Ypf]; kernel_rfl) (fun m hm cs x h => by obtain ⟨a, ha⟩ := Y1ai m cs x h; exact ⟨a, by rw [Ypf]; exact ha⟩) h0
 obtain ⟨y1, h1⟩ := Yj4 hxs hf 1 (by rfl)
 obtain ⟨a1, r1⟩ := Yn4 (C := Yhm) Tryz.underlying23 (by rw [show Tryz.prog.cellsOf 31 = 3 from by kernel_rfl]; decide) (fun a => by rw [Yr8]; kernel_rfl) (fun m hm cs x h => by obtain ⟨a, ha⟩ := Y1e1 m cs x h; exact ⟨a, by rw [Yr8]; exact ha⟩) h1
 obtain ⟨y2, h2⟩ := Yj4 hxs hf 2 (by rfl)
 obtain ⟨a2, r2⟩ := Yom Tryz.underlying3 h2
 obtain ⟨y3, h3⟩ := Yj4 hxs hf 3 (by rfl)
 obtain ⟨a3, r3⟩ := Yom Tryz.underlying3 h3
 obtain ⟨y4, h4⟩ := Yj4 hxs hf 4 (by rfl)
 obtain ⟨a4, r4⟩ := Yom Tryz.underlying3 h4
 exact ⟨⟨a0, a1, a2, a3, a4⟩, seg r0 (seg r1 (seg r2 (seg r3 (seg r4 (Yyi hlen) (by kernel_rfl)) (by kernel_rfl)) (by kernel_rfl)) (by kernel_rfl)) (by kernel_rfl)⟩
end
end Go.Proofs.YtpnaoendfpaodaaGreat
end
section
namespace Go.Proofs.YtpnaoendfpaodaaGreat
open Go
set_option maxRecDepth 100000
def Y11o : List Char := (List.map Char.ofNat [104, 97, 114, 110, 101, 115, 115, 32, 53, 49, 57, 52, 56, 100, 53, 101, 51, 50, 52, 49, 57, 56, 98, 97, 99, 49, 55, 49, 99, 99, 53, 51, 48, 56, 97, 53, 102, 51, 55, 97, 53, 102, 50, 55, 102, 97, 102, 101, 57, 56, 97, 54, 100, 50, 51, 97, 55, 50, 56, 48, 54, 100, 50, 56, 55, 49, 49, 49, 102, 57, 56, 48, 32, 99, 117, 116, 32, 97, 116, 32, 108, 111, 111, 112, 46, 101, 120, 97, 109, 112, 108, 101, 47, 103, 48, 51, 50, 50, 48, 47, 108, 97, 119, 115, 46, 70, 110, 69, 120, 97, 99, 116, 66, 105, 110, 100, 77, 97, 99, 114, 111, 32, 108, 111, 111, 112, 46, 101, 120, 97, 109, 112, 108, 101, 47, 103, 48, 51, 50, 50, 48, 47, 108, 97, 119, 115, 46, 70, 110, 69, 120, 97, 99, 116, 80, 114, 111, 103, 114, 97, 109, 79, 102, 32, 108, 111, 111, 112, 46, 101, 120, 97, 109, 112, 108, 101, 47, 103, 48, 51, 50, 50, 48, 47, 108, 97, 119, 115, 46, 70, 110, 69, 120, 97, 99, 116, 77, 97, 116, 99, 104, 80, 97, 116, 116, 101, 114, 110, 32, 108, 111, 111, 112, 46, 101, 120, 97, 109, 112, 108, 101, 47, 103, 48, 51, 50, 50, 48, 47, 108, 97, 119, 115, 46, 70, 110, 69, 120, 97, 99, 116, 65, 112, 112, 108, 121, 82, 117, 108, 101, 115, 32, 108, 111, 111, 112, 46, 101, 120, 97, 109, 112, 108, 101, 47, 103, 48, 51, 50, 50, 48, 47, 108, 97, 119, 115, 46, 70, 110, 69, 120, 97, 99, 116, 69, 120, 112, 97, 110, 100, 83, 116, 101, 112, 32, 108, 111, 111, 112, 46, 101, 120, 97, 109, 112, 108, 101, 47, 103, 48, 51, 50, 50, 48, 47, 108, 97, 119, 115, 46, 70, 110, 69, 120, 97, 99, 116, 84, 114, 97, 99, 101, 70, 111, 114, 109, 32, 108, 111, 111, 112, 46, 101, 120, 97, 109, 112, 108, 101, 47, 103, 48, 51, 50, 50, 48, 47, 108, 97, 119, 115, 46, 70, 110, 69, 120, 97, 99, 116, 69, 120, 112, 97, 110, 100, 66, 111, 100, 121, 32, 108, 111, 111, 112, 46, 101, 120, 97, 109, 112, 108, 101, 47, 103, 48, 51, 50, 50, 48, 47, 108, 97, 119, 115, 46, 70, 110, 69, 120, 97, 99, 116, 69, 120, 112, 97, 110, 100, 69, 120, 112, 114, 101, 115, 115, 105, 111, 110])
def Ylj : List (List Char) := [(List.map Char.ofNat [104, 97, 114, 110, 101, 115, 115]),
 (List.map Char.ofNat [53, 49, 57, 52, 56, 100, 53, 101, 51, 50, 52, 49, 57, 56, 98, 97, 99, 49, 55, 49, 99, 99, 53, 51, 48, 56, 97, 53, 102, 51, 55, 97, 53, 102, 50, 55, 102, 97, 102, 101, 57, 56, 97, 54, 100, 50, 51, 97, 55, 50, 56, 48, 54, 100, 50, 56, 55, 49, 49, 49, 102, 57, 56, 48]),
 (List.map Char.ofNat [99, 117, 116]),
 (List.map Char.ofNat [97, 116]),
 (List.map Char.ofNat [108, 111, 111, 112, 46, 101, 120, 97, 109, 112, 108, 101, 47, 103, 48, 51, 50, 50, 48, 47, 108, 97, 119, 115, 46, 70, 110, 69, 120, 97, 99, 116, 66, 105, 110, 100, 77, 97, 99, 114, 111]),
 (List.map Char.ofNat [108, 111, 111, 112, 46, 101, 120, 97, 109, 112, 108, 101, 47, 103, 48, 51, 50, 50, 48, 47, 108, 97, 119, 115, 46, 70, 110, 69, 120, 97, 99, 116, 80, 114, 111, 103, 114, 97, 109, 79, 102]),
 (List.map Char.ofNat [108, 111, 111, 112, 46, 101, 120, 97, 109, 112, 108, 101, 47, 103, 48, 51, 50, 50, 48, 47, 108, 97, 119, 115, 46, 70, 110, 69, 120, 97, 99, 116, 77, 97, 116, 99, 104, 80, 97, 116, 116, 101, 114, 110]),
 (List.map Char.ofNat [108, 111, 111, 112, 46, 101, 120, 97, 109, 112, 108, 101, 47, 103, 48, 51, 50, 50, 48, 47, 108, 97, 119, 115, 46, 70, 110, 69, 120, 97, 99, 116, 65, 112, 112, 108, 121, 82, 117, 108, 101, 115]),
 (List.map Char.ofNat [108, 111, 111, 112, 46, 101, 120, 97, 109, 112, 108, 101, 47, 103, 48, 51, 50, 50, 48, 47, 108, 97, 119, 115, 46, 70, 110, 69, 120, 97, 99, 116, 69, 120, 112, 97, 110, 100, 83, 116, 101, 112]),
 (List.map Char.ofNat [108, 111, 111, 112, 46, 101, 120, 97, 109, 112, 108, 101, 47, 103, 48, 51, 50, 50, 48, 47, 108, 97, 119, 115, 46, 70, 110, 69, 120, 97, 99, 116, 84, 114, 97, 99, 101, 70, 111, 114, 109]),
 (List.map Char.ofNat [108, 111, 111, 112, 46, 101, 120, 97, 109, 112, 108, 101, 47, 103, 48, 51, 50, 50, 48, 47, 108, 97, 119, 115, 46, 70, 110, 69, 120, 97, 99, 116, 69, 120, 112, 97, 110, 100, 66, 111, 100, 121]),
 (List.map Char.ofNat [108, 111, 111, 112, 46, 101, 120, 97, 109, 112, 108, 101, 47, 103, 48, 51, 50, 50, 48, 47, 108, 97, 119, 115, 46, 70, 110, 69, 120, 97, 99, 116, 69, 120, 112, 97, 110, 100, 69, 120, 112, 114, 101, 115, 115, 105, 111, 110])]
theorem Y1dm : Tryz.pinned.checked.prog.initOrder = String.ofList Y11o := by kernel_rfl
theorem Y1a9 : wordsSigns Y11o = Ylj := by kernel_rfl
theorem Y19d : wordsSigns Tryz.pinned.checked.prog.initOrder.toList = Ylj := by rw [Y1dm, String.toList_ofList]; exact Y1a9
theorem Y19r : stripLifts liftWords (behindMainWord Ylj) = ([], behindMainWord Ylj) := by kernel_rfl
theorem Y1dd (P : Program) (h : wordsSigns P.initOrder.toList = Ylj) (h1 : P.laysLater = false) (h2 : P.bearsReflect = false) (h3 : P.doorFits [] = true) : P.mayEnter = true := by
 have e : behindMainWord Ylj = (List.map Char.ofNat [99, 117, 116]) :: (behindMainWord Ylj).tail := by kernel_rfl
 have t := Y19r
 unfold Program.mayEnter; rw [h]
 rw [e] at t ⊢
 simp only [t, h1, h2, h3]
 decide +kernel
theorem Y1fx (P : Program) (h : wordsSigns P.initOrder.toList = Ylj) : P.make = some .cut := by
 unfold Program.make; rw [h]; kernel_rfl
theorem Y1ev (P : Program) (h : wordsSigns P.initOrder.toList = Ylj) : P.liftsFinal = false := by
 unfold Program.liftsFinal Program.headLifts; rw [h]; kernel_rfl
theorem Y1lv {a b : Bool} (h : a = true) (g : b = true) : (a && b) = true := by rw [h, g]; rfl
theorem Y1kb : Tryz.pinned.checked.prog.mayEnter = true := Y1dd _ Y19d (by kernel_rfl) (by kernel_rfl) (by kernel_rfl)
theorem Y1kw : Tryz.pinned.checked.prog.make = some .cut := Y1fx _ Y19d
theorem Y1l8 : Tryz.pinned.checked.prog.liftsFinal = false := Y1ev _ Y19d
end Go.Proofs.YtpnaoendfpaodaaGreat
end
section
namespace Go.Proofs.YtpnaoendfpaodaaGreat
open Go Ab
def Yhs {α : Type} (f : α -> Int -> α) (c : α -> Nat) : List α -> Int -> List α
 | [], _ => []
 | x :: r, n => f x n :: Yhs f c r (n + c x)
theorem Yid {α : Type} (f : α -> Int -> α) (c : α -> Nat) : ∀ (L : List α) (n : Int), (Yhs f c L n).length = L.length
 | [], n => rfl
 | x :: r, n => by simp [Yhs, Yid f c r]
theorem Ypg {α : Type} (f : α -> Int -> α) (c : α -> Nat) : ∀ (A B : List α) (n : Int), Yhs f c (A ++ B) n = Yhs f c A n ++ Yhs f c B (n + Yhb c A)
 | [], B, n => by simp [Yhs, Yhb]
 | x :: r, B, n => by simp only [List.cons_append, Yhs, Ypg f c r B, Yhb]; congr 3; omega
theorem Yun {α : Type} {c : α -> Nat} (h : ∀ x, 1 <= c x) : ∀ L : List α, L.length <= Yhb c L
 | [] => Nat.zero_le _
 | x :: r => by have := Yun h r; have := h x; simp only [Yhb, List.length_cons]; omega
def Yjp {α : Type} (f : α -> Int -> α) (c : α -> Nat) (L : List α) (n : Int) (i : Nat) : List α := Yhs f c (L.take i) n ++ L.drop i
theorem Yjn {α : Type} (f : α -> Int -> α) (c : α -> Nat) (L : List α) (n : Int) (i : Nat) : (Yjp f c L n i).length = L.length := by simp [Yjp, Yid]; omega
theorem Yua {α : Type} (f : α -> Int -> α) (c : α -> Nat) (L : List α) (n : Int) : Yjp f c L n 0 = L := by simp [Yjp, Yhs]
theorem Yk0 {α : Type} (f : α -> Int -> α) (c : α -> Nat) (L : List α) (n : Int) {i : Nat} (h : L.length <= i) : Yjp f c L n i = Yhs f c L n := by
 simp [Yjp, List.drop_eq_nil_of_le h, List.take_of_length_le h]
theorem Yx4 {α : Type} [Inhabited α] (f : α -> Int -> α) (c : α -> Nat) (L : List α) (n : Int) {i : Nat} (h : i < L.length) : (Yjp f c L n i).getD i default = L.getD i default := by
 have : i - (Yhs f c (List.take i L) n).length = 0 := by simp [Yid]; omega
 unfold Yjp
 rw [Yiu h, List.getD_eq_getElem?_getD, List.getElem?_append_right (by simp [Yid]; omega), this]; simp
theorem Y1ez {α : Type} [Inhabited α] (f : α -> Int -> α) (c : α -> Nat) (L : List α) (n : Int) {i : Nat} (h : i < L.length) :
  (Yjp f c L n i).set i (f (L.getD i default) (n + Yhb c (L.take i))) = Yjp f c L n (i + 1) := by
 have : i - (Yhs f c (List.take i L) n).length = 0 := by simp [Yid]; omega
 unfold Yjp
 rw [Yiu h, Yhy h, List.set_append_right _ _ (by simp [Yid]; omega), this, Ypg]
 simp [Yhs]
theorem Yjv {α : Type} [Inhabited α] {f : α -> Int -> α} {c : α -> Nat} {L : List α} {n : Int} {C : α -> List Cell} {i : Nat} {r : List Cell} (h : i < L.length) (hr : C (L.getD i default) = r) :
  ((Yjp f c L n i).map C)[i]? = some r := by
 rw [<- hr, <- Yx4 f c L n h]; exact Ylc (by rw [Yjn]; exact h) rfl
theorem Yjm {α : Type} [Inhabited α] {f : α -> Int -> α} {c : α -> Nat} {L : List α} {n : Int} {C : α -> List Cell} {i : Nat} {r : List Cell} (h : i < L.length)
  (hr : C (f (L.getD i default) (n + Yhb c (L.take i))) = r) : ((Yjp f c L n i).map C).set i r = (Yjp f c L n (i + 1)).map C := by
 rw [<- hr, <- List.map_set, Y1ez f c L n h]
theorem Y1dt {α : Type} [Inhabited α] (f : α -> Int -> α) (c : α -> Nat) {L : List α} (n : Int) {i : Nat} (h : i < L.length) :
  Yhs f c (L.take (i + 1)) n = L.take (i + 1) ↔ Yhs f c (L.take i) n = L.take i /\ f (L.getD i default) (n + Yhb c (L.take i)) = L.getD i default := by
 rw [Yhy h, Ypg]
 constructor
 ·intro e
  have := List.append_inj e (by simp [Yid])
  exact ⟨this.1, by simpa [Yhs] using this.2⟩
 ·rintro ⟨e1, e2⟩; rw [e1]; simp only [Yhs]; rw [e2]
theorem Y1ce {α : Type} (f : α -> Int -> α) (c : α -> Nat) {L : List α} {n : Int} (i : Nat) (h : Yhs f c L n = L) : Yhs f c (L.take i) n = L.take i := by
 have e : Yhs f c (L.take i ++ L.drop i) n = L.take i ++ L.drop i := by rw [List.take_append_drop]; exact h
 rw [Ypg] at e
 exact (List.append_inj e (by simp [Yid])).1
theorem Y13l {α : Type} [Inhabited α] {f : α -> Int -> α} {c : α -> Nat} {L : List α} {n : Int} (h : Yhs f c L n = L) {i : Nat} (hi : i < L.length) :
  f (L.getD i default) (n + Yhb c (L.take i)) = L.getD i default := ((Y1dt f c n hi).1 (Y1ce f c (i + 1) h)).2
def mkI (_ : Int) (n : Int) : Int := n
def Yj3 {α : Type} (_ : α) : Nat := 1
theorem Ysz {α : Type} : ∀ L : List α, Yhb Yj3 L = L.length
 | [] => rfl
 | x :: r => by simp only [Yhb, Ysz r, List.length_cons, Yj3]; omega
theorem Y163 {L : List Int} {n : Int} (h : Yhs mkI Yj3 L n = L) {i : Nat} (hi : i < L.length) : L.getD i 0 = n + i := by
 have := Y13l h hi
 simp only [mkI, Ysz, List.length_take] at this
 rw [show min i L.length = i by omega] at this
 exact this.symm
theorem Y119 {α : Type} {L : List α} {i : Nat} (h : i <= L.length) : Yhb Yj3 (L.take i) = i := by rw [Ysz]; simp; omega
theorem Ylg {α : Type} {c w : α -> Nat} : ∀ (L : List α) (_ : ∀ y ∈ L, c y <= 16 + 16 * w y), Yhb c L <= 16 * L.length + 16 * Yhb w L
 | [], _ => by simp [Yhb]
 | x :: r, h => by have := h x (List.mem_cons_self ..); have := Ylg r (fun y hy => h y (List.mem_cons_of_mem _ hy)); simp only [Yhb, List.length_cons]; omega
class Marks {α : Type} (f : α -> Int -> α) (c : outParam (α -> Nat)) : Prop where
 fix : ∀ x n, f (f x n) n = f x n
 cnt : ∀ x n, c (f x n) = c x
theorem Yo7 {α : Type} {f : α -> Int -> α} {c : α -> Nat} : ∀ (L : List α) (n : Int) (_ : ∀ x ∈ L, ∀ n, c (f x n) = c x), Yhb c (Yhs f c L n) = Yhb c L
 | [], _, _ => rfl
 | x :: r, n, h => by simp only [Yhs, Yhb]; rw [h x (List.mem_cons_self ..), Yo7 r _ (fun y hy => h y (List.mem_cons_of_mem _ hy))]
theorem Yn9 {α : Type} {f : α -> Int -> α} {c : α -> Nat} : ∀ (L : List α) (n : Int) (_ : ∀ x ∈ L, ∀ n, c (f x n) = c x) (_ : ∀ x ∈ L, ∀ n, f (f x n) n = f x n), Yhs f c (Yhs f c L n) n = Yhs f c L n
 | [], _, _, _ => rfl
 | x :: r, n, h, g => by
  simp only [Yhs]; rw [h x (List.mem_cons_self ..), g x (List.mem_cons_self ..), Yn9 r _ (fun y hy => h y (List.mem_cons_of_mem _ hy)) (fun y hy => g y (List.mem_cons_of_mem _ hy))]
theorem Yiw {α : Type} {f : α -> Int -> α} {c : α -> Nat} [Marks f c] (L : List α) (n : Int) : Yhb c (Yhs f c L n) = Yhb c L := Yo7 L n fun x _ => Marks.cnt x
theorem Yk6 {α : Type} {f : α -> Int -> α} {c : α -> Nat} [Marks f c] (L : List α) (n : Int) : Yhs f c (Yhs f c L n) n = Yhs f c L n := Yn9 L n (fun x _ => Marks.cnt x) fun x _ => Marks.fix x
instance : Marks mkI Yj3 := ⟨fun _ _ => rfl, fun _ _ => rfl⟩
def Ymn (n : Nat) : List UInt8 := if h : n = 0 then [] else Ymn (n / 10) ++ [UInt8.ofNat (48 + n % 10)]
theorem Y11k {n : Nat} (h : 0 < n) : Ymn n = Ymn (n / 10) ++ [UInt8.ofNat (48 + n % 10)] := by
 rw [Ymn]; simp [show n ≠ 0 by omega]
theorem Y13r (n : Nat) : (Ymn n).length <= n := by
 induction n using Nat.strongRecOn with
 | ind n ih =>
  by_cases h : n = 0
  ·subst h; rw [Ymn]; simp
  ·rw [Y11k (by omega)]
   have := ih (n / 10) (by omega)
   simp only [List.length_append, List.length_cons, List.length_nil]; omega
theorem Y1ba : Ymn 0 = [] := by rw [Ymn]; simp
theorem Y1f0 {i : Int} (h : 0 < i) : Ymn i.toNat = Ymn (i / 10).toNat ++ [UInt8.ofNat (48 + i % 10).toNat] := by
 rw [Y11k (by omega), show i.toNat / 10 = (i / 10).toNat by omega, show 48 + i.toNat % 10 = (48 + i % 10).toNat by omega]
theorem Y1ji {d : Int} (h0 : 0 <= d) (h1 : d < 256) : ((UInt8.ofNat d.toNat).toNat : Int) = d := by
 rw [UInt8.toNat_ofNat']; omega
theorem Y1m3 {n : Int} : rng .u8 n ↔ 0 <= n /\ n <= 255 := by
 unfold rng; simp [IntKind.min, IntKind.max, IntKind.signed, IntKind.bits]
def Yj2 (n : Int) : ByteArray := if n <= 0 then mkS [109, 48] else mkS (109 :: Ymn n.toNat)
def mkT (_ : ByteArray) (n : Int) : ByteArray := Yj2 n
instance : Marks mkT Yj3 := ⟨fun _ _ => rfl, fun _ _ => rfl⟩
theorem Yke {α : Type} {l : List α} {k : Nat} {r : α} (h : k < l.length) : (l.set k r)[k]? = some r := by simp [h]
theorem Ykf {α : Type} [Inhabited α] {C F : α -> List Cell} {z : Nat} [Row α C F z] {f : α -> Int -> α} {c : α -> Nat} {L : List α} {n : Int} {i : Nat} (h : i < L.length) :
  ((Yjp f c L n i).map C)[i]? = some (F (L.getD i default)) := Yjv h (Row.eq _)
theorem Yi6 : (∀ {α : Type} (f : α -> Int -> α) (c : α -> Nat) (L : List α) (n : Int) (i : Nat), (Yjp f c L n i).length = L.length) /\ (∀ {α : Type} (f : α -> Int -> α) (c : α -> Nat) (L : List α) (n : Int), Yjp f c L n 0 = L) /\
  (∀ {α : Type} (L : List α), Yhb Yj3 L = L.length) /\ (∀ {α : Type} (f : α -> Int -> α) (c : α -> Nat) (L : List α) (n : Int), (Yhs f c L n).length = L.length) /\
  (∀ {α : Type} (l : List α) (i : Nat) (a : α), (l.set i a).length = l.length) /\ (∀ {α : Type} (l : List α) (i : Nat) (a b : α), (l.set i a).set i b = l.set i b) /\ (∀ {α : Type} (l : List α), l.take 0 = []) /\
  (∀ {α : Type} (f : α -> Nat), Yhb f [] = 0) /\ ((0 : Nat) : Int) = 0 /\ (∀ n : Int, n + 0 = n) :=
 ⟨Yjn, Yua, Ysz, Yid, fun _ _ _ => List.length_set, fun _ _ _ _ => by simp, fun _ => List.take_zero, fun _ => rfl, rfl, Int.add_zero⟩
mutual
def cD : Datum -> Nat
 | ⟨kind', number', text', items'⟩ => 3 + cDs items'
def cDs : List Datum -> Nat
 | [] => 0
 | x :: r => cD x + cDs r
end
theorem Y1c6 : ∀ l, cDs l = Yhb cD l
 | [] => by simp [cDs, Yhb]
 | x :: r => by rw [cDs, Y1c6 r, Yhb]
theorem Y1g1 (x : Datum) : cD x = 3 + Yhb cD x.items := by cases x; simp only [cD, Y1c6]
mutual
def mkD : Datum -> Int -> Datum
 | ⟨kind', number', text', items'⟩, n => ⟨n, (n + 1), (Yj2 (n + 1 + 1)), (Y12u items' (n + 1 + 1 + 1))⟩
def Y12u : List Datum -> Int -> List Datum
 | [], _ => []
 | x :: r, n => mkD x n :: Y12u r (n + cD x)
end
theorem Y18h : ∀ l n, Y12u l n = Yhs mkD cD l n
 | [], n => by rw [Y12u, Yhs]
 | x :: r, n => by rw [Y12u, Yhs, Y18h r]
theorem Y14t (x : Datum) (n : Int) : mkD x n = ⟨n, (n + 1), (Yj2 (n + 1 + 1)), (Yhs mkD cD x.items (n + 1 + 1 + 1))⟩ := by cases x; simp only [mkD, Y18h]
theorem Y16y : ∀ (x : Datum) (n : Int), cD (mkD x n) = cD x := Datum.ind (P := fun x => ∀ n, cD (mkD x n) = cD x) fun x ih n => by
 rw [Y1g1, Y1g1 x, Y14t]; simp only [Yid, Yiw]; rw [Yo7 x.items _ ih]
theorem Y1e8 : ∀ (x : Datum) (n : Int), mkD (mkD x n) n = mkD x n := Datum.ind (P := fun x => ∀ n, mkD (mkD x n) n = mkD x n) fun x ih n => by
 rw [Y14t (mkD x n), Y14t x n]; simp only [Yid, Yiw, Yk6]; rw [Yn9 x.items _ (fun x _ => Y16y x) ih]
instance : Marks mkD cD := ⟨Y1e8, Y16y⟩
mutual
def cC : Core -> Nat
 | ⟨kind', number', params', datum', kids'⟩ => 5 + params'.length + Yhb cD datum'.items + cCs kids'
def cCs : List Core -> Nat
 | [] => 0
 | x :: r => cC x + cCs r
end
theorem Y1d0 : ∀ l, cCs l = Yhb cC l
 | [] => by simp [cCs, Yhb]
 | x :: r => by rw [cCs, Y1d0 r, Yhb]
theorem Y1g7 (x : Core) : cC x = 5 + x.params.length + Yhb cD x.datum.items + Yhb cC x.kids := by cases x; simp only [cC, Y1d0]
mutual
def mkC : Core -> Int -> Core
 | ⟨kind', number', params', datum', kids'⟩, n => ⟨n, (n + 1), (Yhs mkI Yj3 params' (n + 1 + 1)), ⟨(n + 1 + 1 + params'.length), (n + 1 + 1 + params'.length + 1), (Yj2 (n + 1 + 1 + params'.length + 1 + 1)), (Yhs mkD cD datum'.items (n + 1 + 1 + params'.length + 1 + 1 + 1))⟩, (Y13h kids' (n + 1 + 1 + params'.length + 1 + 1 + 1 + Yhb cD datum'.items))⟩
def Y13h : List Core -> Int -> List Core
 | [], _ => []
 | x :: r, n => mkC x n :: Y13h r (n + cC x)
end
theorem Y172 : ∀ l n, Y13h l n = Yhs mkC cC l n
 | [], n => by rw [Y13h, Yhs]
 | x :: r, n => by rw [Y13h, Yhs, Y172 r]
theorem Y12c (x : Core) (n : Int) : mkC x n = ⟨n, (n + 1), (Yhs mkI Yj3 x.params (n + 1 + 1)), ⟨(n + 1 + 1 + x.params.length), (n + 1 + 1 + x.params.length + 1), (Yj2 (n + 1 + 1 + x.params.length + 1 + 1)), (Yhs mkD cD x.datum.items (n + 1 + 1 + x.params.length + 1 + 1 + 1))⟩, (Yhs mkC cC x.kids (n + 1 + 1 + x.params.length + 1 + 1 + 1 + Yhb cD x.datum.items))⟩ := by cases x; simp only [mkC, Y172]
theorem Y17c : ∀ (x : Core) (n : Int), cC (mkC x n) = cC x := Core.ind (P := fun x => ∀ n, cC (mkC x n) = cC x) fun x ih n => by
 rw [Y1g7, Y1g7 x, Y12c]; simp only [Yid, Yiw]; rw [Yo7 x.kids _ ih]
theorem Y1ew : ∀ (x : Core) (n : Int), mkC (mkC x n) n = mkC x n := Core.ind (P := fun x => ∀ n, mkC (mkC x n) n = mkC x n) fun x ih n => by
 rw [Y12c (mkC x n), Y12c x n]; simp only [Yid, Yiw, Yk6]; rw [Yn9 x.kids _ (fun x _ => Y17c x) ih]
instance : Marks mkC cC := ⟨Y1ew, Y17c⟩
mutual
def cY : YS -> Nat
 | ⟨kind', number', text', scopes', items'⟩ => 3 + scopes'.length + cYs items'
def cYs : List YS -> Nat
 | [] => 0
 | x :: r => cY x + cYs r
end
theorem Y1ct : ∀ l, cYs l = Yhb cY l
 | [] => by simp [cYs, Yhb]
 | x :: r => by rw [cYs, Y1ct r, Yhb]
theorem Yq0 (x : YS) : cY x = 3 + x.scopes.length + Yhb cY x.items := by cases x; simp only [cY, Y1ct]
mutual
def mkY : YS -> Int -> YS
 | ⟨kind', number', text', scopes', items'⟩, n => ⟨n, (n + 1), (Yj2 (n + 1 + 1)), (Yhs mkI Yj3 scopes' (n + 1 + 1 + 1)), (Y13j items' (n + 1 + 1 + 1 + scopes'.length))⟩
def Y13j : List YS -> Int -> List YS
 | [], _ => []
 | x :: r, n => mkY x n :: Y13j r (n + cY x)
end
theorem Y17b : ∀ l n, Y13j l n = Yhs mkY cY l n
 | [], n => by rw [Y13j, Yhs]
 | x :: r, n => by rw [Y13j, Yhs, Y17b r]
theorem Yur (x : YS) (n : Int) : mkY x n = ⟨n, (n + 1), (Yj2 (n + 1 + 1)), (Yhs mkI Yj3 x.scopes (n + 1 + 1 + 1)), (Yhs mkY cY x.items (n + 1 + 1 + 1 + x.scopes.length))⟩ := by cases x; simp only [mkY, Y17b]
theorem Y1a2 (x : YS) (n : Int) : Yh9 (mkY x n) = [cI (n), cI (n + 1), cS (Yj2 (n + 1 + 1)), .list ((Yhs mkI Yj3 x.scopes (n + 1 + 1 + 1)).map Yhd), .list ((Yhs mkY cY x.items (n + 1 + 1 + 1 + x.scopes.length)).map Yh9)] := by rw [Ykm, Yur]; rfl
theorem Y1gx {x : YS} {n : Int} (h : mkY x n = x) : x.kind = n /\ x.number = n + 1 /\ x.text = Yj2 (n + 1 + 1) /\ Yhs mkI Yj3 x.scopes (n + 1 + 1 + 1) = x.scopes /\ Yhs mkY cY x.items (n + 1 + 1 + 1 + x.scopes.length) = x.items := by
 have e := h.symm; rw [Yur] at e
 exact ⟨congrArg (fun z => z.kind) e, congrArg (fun z => z.number) e, congrArg (fun z => z.text) e, (congrArg (fun z => z.scopes) e).symm, (congrArg (fun z => z.items) e).symm⟩
theorem Y176 : ∀ (x : YS) (n : Int), cY (mkY x n) = cY x := YS.ind (P := fun x => ∀ n, cY (mkY x n) = cY x) fun x ih n => by
 rw [Yq0, Yq0 x, Yur]; simp only [Yid, Yiw]; rw [Yo7 x.items _ ih]
theorem Y1ed : ∀ (x : YS) (n : Int), mkY (mkY x n) n = mkY x n := YS.ind (P := fun x => ∀ n, mkY (mkY x n) n = mkY x n) fun x ih n => by
 rw [Yur (mkY x n), Yur x n]; simp only [Yid, Yiw, Yk6]; rw [Yn9 x.items _ (fun x _ => Y176 x) ih]
instance : Marks mkY cY := ⟨Y1ed, Y176⟩
theorem Yyl : ∀ x : YS, cY x <= 16 + 16 * wY x := YS.ind (P := fun x => cY x <= 16 + 16 * wY x) fun x ih => by
 have b0 := Ylg x.items ih
 simp only [Yq0, Yj6, wS]
 omega
theorem Y1c8 (L : List YS) : L.length <= Yhb cY L := Yun (fun x => by rw [Yq0]; omega) L
def cB (x : YB) : Nat := 3 + x.scopes.length
theorem Yy4 (x : YB) : cB x = 3 + x.scopes.length := rfl
def mkB (x : YB) (n : Int) : YB := ⟨(Yj2 (n)), (Yhs mkI Yj3 x.scopes (n + 1)), (n + 1 + x.scopes.length), (n + 1 + x.scopes.length + 1)⟩
theorem Y14s (x : YB) (n : Int) : mkB x n = ⟨(Yj2 (n)), (Yhs mkI Yj3 x.scopes (n + 1)), (n + 1 + x.scopes.length), (n + 1 + x.scopes.length + 1)⟩ := rfl
theorem Y19m (x : YB) (n : Int) : Yhc (mkB x n) = [cS (Yj2 (n)), .list ((Yhs mkI Yj3 x.scopes (n + 1)).map Yhd), cI (n + 1 + x.scopes.length), cI (n + 1 + x.scopes.length + 1)] := by rw [Ypf, Y14s]; rfl
instance : Marks mkB cB := ⟨fun x n => by simp only [Y14s, Yid, Yiw, Yk6], fun x n => by simp only [Yy4, Y14s, Yid, Yiw]⟩
theorem Y1kx (x : YB) : cB x <= 16 + 16 * wB x := by
 simp only [Yy4, Ysh, wS]
 omega
theorem Y1j7 (L : List YB) : L.length <= Yhb cB L := Yun (fun x => by rw [Yy4]; omega) L
def cR (x : YR) : Nat := 0 + Yhb cY x.literals + Yhb cY x.patterns + Yhb cY x.templates
theorem Y120 (x : YR) : cR x = 0 + Yhb cY x.literals + Yhb cY x.patterns + Yhb cY x.templates := rfl
def mkR (x : YR) (n : Int) : YR := ⟨(Yhs mkY cY x.literals (n)), (Yhs mkY cY x.patterns (n + Yhb cY x.literals)), (Yhs mkY cY x.templates (n + Yhb cY x.literals + Yhb cY x.patterns))⟩
theorem Y14a (x : YR) (n : Int) : mkR x n = ⟨(Yhs mkY cY x.literals (n)), (Yhs mkY cY x.patterns (n + Yhb cY x.literals)), (Yhs mkY cY x.templates (n + Yhb cY x.literals + Yhb cY x.patterns))⟩ := rfl
theorem Y1a3 (x : YR) (n : Int) : Yhm (mkR x n) = [.list ((Yhs mkY cY x.literals (n)).map Yh9), .list ((Yhs mkY cY x.patterns (n + Yhb cY x.literals)).map Yh9), .list ((Yhs mkY cY x.templates (n + Yhb cY x.literals + Yhb cY x.patterns)).map Yh9)] := by rw [Yr8, Y14a]; rfl
instance : Marks mkR cR := ⟨fun x n => by simp only [Y14a, Yid, Yiw, Yk6], fun x n => by simp only [Y120, Y14a, Yid, Yiw]⟩
theorem Y1le (x : YR) : cR x <= 16 + 16 * wR x := by
 have b0 := Ylg x.literals (fun y _ => Yyl y)
 have b1 := Ylg x.patterns (fun y _ => Yyl y)
 have b2 := Ylg x.templates (fun y _ => Yyl y)
 simp only [Y120, Ynp, wS]
 omega
mutual
def cP : YC -> Nat
 | ⟨name', depth', form', each'⟩ => 7 + name'.scopes.length + Yhb cY name'.items + form'.scopes.length + Yhb cY form'.items + cPs each'
def cPs : List YC -> Nat
 | [] => 0
 | x :: r => cP x + cPs r
end
theorem Y1de : ∀ l, cPs l = Yhb cP l
 | [] => by simp [cPs, Yhb]
 | x :: r => by rw [cPs, Y1de r, Yhb]
theorem Y1gi (x : YC) : cP x = 7 + x.name.scopes.length + Yhb cY x.name.items + x.form.scopes.length + Yhb cY x.form.items + Yhb cP x.each := by cases x; simp only [cP, Y1de]
mutual
def mkP : YC -> Int -> YC
 | ⟨name', depth', form', each'⟩, n => ⟨⟨n, (n + 1), (Yj2 (n + 1 + 1)), (Yhs mkI Yj3 name'.scopes (n + 1 + 1 + 1)), (Yhs mkY cY name'.items (n + 1 + 1 + 1 + name'.scopes.length))⟩, (n + 1 + 1 + 1 + name'.scopes.length + Yhb cY name'.items), ⟨(n + 1 + 1 + 1 + name'.scopes.length + Yhb cY name'.items + 1), (n + 1 + 1 + 1 + name'.scopes.length + Yhb cY name'.items + 1 + 1), (Yj2 (n + 1 + 1 + 1 + name'.scopes.length + Yhb cY name'.items + 1 + 1 + 1)), (Yhs mkI Yj3 form'.scopes (n + 1 + 1 + 1 + name'.scopes.length + Yhb cY name'.items + 1 + 1 + 1 + 1)), (Yhs mkY cY form'.items (n + 1 + 1 + 1 + name'.scopes.length + Yhb cY name'.items + 1 + 1 + 1 + 1 + form'.scopes.length))⟩, (Y14d each' (n + 1 + 1 + 1 + name'.scopes.length + Yhb cY name'.items + 1 + 1 + 1 + 1 + form'.scopes.length + Yhb cY form'.items))⟩
def Y14d : List YC -> Int -> List YC
 | [], _ => []
 | x :: r, n => mkP x n :: Y14d r (n + cP x)
end
theorem Y17r : ∀ l n, Y14d l n = Yhs mkP cP l n
 | [], n => by rw [Y14d, Yhs]
 | x :: r, n => by rw [Y14d, Yhs, Y17r r]
theorem Y15y (x : YC) (n : Int) : mkP x n = ⟨⟨n, (n + 1), (Yj2 (n + 1 + 1)), (Yhs mkI Yj3 x.name.scopes (n + 1 + 1 + 1)), (Yhs mkY cY x.name.items (n + 1 + 1 + 1 + x.name.scopes.length))⟩, (n + 1 + 1 + 1 + x.name.scopes.length + Yhb cY x.name.items), ⟨(n + 1 + 1 + 1 + x.name.scopes.length + Yhb cY x.name.items + 1), (n + 1 + 1 + 1 + x.name.scopes.length + Yhb cY x.name.items + 1 + 1), (Yj2 (n + 1 + 1 + 1 + x.name.scopes.length + Yhb cY x.name.items + 1 + 1 + 1)), (Yhs mkI Yj3 x.form.scopes (n + 1 + 1 + 1 + x.name.scopes.length + Yhb cY x.name.items + 1 + 1 + 1 + 1)), (Yhs mkY cY x.form.items (n + 1 + 1 + 1 + x.name.scopes.length + Yhb cY x.name.items + 1 + 1 + 1 + 1 + x.form.scopes.length))⟩, (Yhs mkP cP x.each (n + 1 + 1 + 1 + x.name.scopes.length + Yhb cY x.name.items + 1 + 1 + 1 + 1 + x.form.scopes.length + Yhb cY x.form.items))⟩ := by cases x; simp only [mkP, Y17r]
theorem Y17h : ∀ (x : YC) (n : Int), cP (mkP x n) = cP x := YC.ind (P := fun x => ∀ n, cP (mkP x n) = cP x) fun x ih n => by
 rw [Y1gi, Y1gi x, Y15y]; simp only [Yid, Yiw]; rw [Yo7 x.each _ ih]
theorem Y1ex : ∀ (x : YC) (n : Int), mkP (mkP x n) n = mkP x n := YC.ind (P := fun x => ∀ n, mkP (mkP x n) n = mkP x n) fun x ih n => by
 rw [Y15y (mkP x n), Y15y x n]; simp only [Yid, Yiw, Yk6]; rw [Yn9 x.each _ (fun x _ => Y17h x) ih]
instance : Marks mkP cP := ⟨Y1ex, Y17h⟩
def cX (x : YE) : Nat := 3 + Yhb cB x.bindings + Yhb cR x.macros
theorem Y1m2 (x : YE) : cX x = 3 + Yhb cB x.bindings + Yhb cR x.macros := rfl
def mkX (x : YE) (n : Int) : YE := ⟨(Yhs mkB cB x.bindings (n)), (Yhs mkR cR x.macros (n + Yhb cB x.bindings)), (n + Yhb cB x.bindings + Yhb cR x.macros), (n + Yhb cB x.bindings + Yhb cR x.macros + 1), (n + Yhb cB x.bindings + Yhb cR x.macros + 1 + 1)⟩
theorem Y1db (x : YE) (n : Int) : mkX x n = ⟨(Yhs mkB cB x.bindings (n)), (Yhs mkR cR x.macros (n + Yhb cB x.bindings)), (n + Yhb cB x.bindings + Yhb cR x.macros), (n + Yhb cB x.bindings + Yhb cR x.macros + 1), (n + Yhb cB x.bindings + Yhb cR x.macros + 1 + 1)⟩ := rfl
instance : Marks mkX cX := ⟨fun x n => by simp only [Y1db, Yid, Yiw, Yk6], fun x n => by simp only [Y1m2, Y1db, Yid, Yiw]⟩
def cM (x : Module) : Nat := 1 + x.imports.length + x.exports.length + Yhb cD x.body
theorem Y1kv (x : Module) : cM x = 1 + x.imports.length + x.exports.length + Yhb cD x.body := rfl
def mkM (x : Module) (n : Int) : Module := ⟨(Yj2 (n)), (Yhs mkT Yj3 x.imports (n + 1)), (Yhs mkT Yj3 x.exports (n + 1 + x.imports.length)), (Yhs mkD cD x.body (n + 1 + x.imports.length + x.exports.length))⟩
theorem Y1cy (x : Module) (n : Int) : mkM x n = ⟨(Yj2 (n)), (Yhs mkT Yj3 x.imports (n + 1)), (Yhs mkT Yj3 x.exports (n + 1 + x.imports.length)), (Yhs mkD cD x.body (n + 1 + x.imports.length + x.exports.length))⟩ := rfl
instance : Marks mkM cM := ⟨fun x n => by simp only [Y1cy, Yid, Yiw, Yk6], fun x n => by simp only [Y1kv, Y1cy, Yid, Yiw]⟩
def cE (x : Export) : Nat := 4
theorem Y1kp (x : Export) : cE x = 4 := rfl
def mkE (x : Export) (n : Int) : Export := ⟨(Yj2 (n)), (Yj2 (n + 1)), (n + 1 + 1), (n + 1 + 1 + 1)⟩
theorem Y1c0 (x : Export) (n : Int) : mkE x n = ⟨(Yj2 (n)), (Yj2 (n + 1)), (n + 1 + 1), (n + 1 + 1 + 1)⟩ := rfl
instance : Marks mkE cE := ⟨fun x n => by simp only [Y1c0, Yid, Yiw, Yk6], fun x n => by simp only [Y1kp, Y1c0, Yid, Yiw]⟩
def cU (x : Unit) : Nat := 6 + x.globals.length + x.body.params.length + Yhb cD x.body.datum.items + Yhb cC x.body.kids
theorem Y1l3 (x : Unit) : cU x = 6 + x.globals.length + x.body.params.length + Yhb cD x.body.datum.items + Yhb cC x.body.kids := rfl
def mkU (x : Unit) (n : Int) : Unit := ⟨(Yj2 (n)), (Yhs mkI Yj3 x.globals (n + 1)), ⟨(n + 1 + x.globals.length), (n + 1 + x.globals.length + 1), (Yhs mkI Yj3 x.body.params (n + 1 + x.globals.length + 1 + 1)), ⟨(n + 1 + x.globals.length + 1 + 1 + x.body.params.length), (n + 1 + x.globals.length + 1 + 1 + x.body.params.length + 1), (Yj2 (n + 1 + x.globals.length + 1 + 1 + x.body.params.length + 1 + 1)), (Yhs mkD cD x.body.datum.items (n + 1 + x.globals.length + 1 + 1 + x.body.params.length + 1 + 1 + 1))⟩, (Yhs mkC cC x.body.kids (n + 1 + x.globals.length + 1 + 1 + x.body.params.length + 1 + 1 + 1 + Yhb cD x.body.datum.items))⟩⟩
theorem Y1da (x : Unit) (n : Int) : mkU x n = ⟨(Yj2 (n)), (Yhs mkI Yj3 x.globals (n + 1)), ⟨(n + 1 + x.globals.length), (n + 1 + x.globals.length + 1), (Yhs mkI Yj3 x.body.params (n + 1 + x.globals.length + 1 + 1)), ⟨(n + 1 + x.globals.length + 1 + 1 + x.body.params.length), (n + 1 + x.globals.length + 1 + 1 + x.body.params.length + 1), (Yj2 (n + 1 + x.globals.length + 1 + 1 + x.body.params.length + 1 + 1)), (Yhs mkD cD x.body.datum.items (n + 1 + x.globals.length + 1 + 1 + x.body.params.length + 1 + 1 + 1))⟩, (Yhs mkC cC x.body.kids (n + 1 + x.globals.length + 1 + 1 + x.body.params.length + 1 + 1 + 1 + Yhb cD x.body.datum.items))⟩⟩ := rfl
instance : Marks mkU cU := ⟨fun x n => by simp only [Y1da, Yid, Yiw, Yk6], fun x n => by simp only [Y1l3, Y1da, Yid, Yiw]⟩
def cW (x : World) : Nat := 3 + Yhb cB x.expander.bindings + Yhb cR x.expander.macros + Yhb cU x.units + Yhb cE x.exports
theorem Y1lw (x : World) : cW x = 3 + Yhb cB x.expander.bindings + Yhb cR x.expander.macros + Yhb cU x.units + Yhb cE x.exports := rfl
def mkW (x : World) (n : Int) : World := ⟨⟨(Yhs mkB cB x.expander.bindings (n)), (Yhs mkR cR x.expander.macros (n + Yhb cB x.expander.bindings)), (n + Yhb cB x.expander.bindings + Yhb cR x.expander.macros), (n + Yhb cB x.expander.bindings + Yhb cR x.expander.macros + 1), (n + Yhb cB x.expander.bindings + Yhb cR x.expander.macros + 1 + 1)⟩, (Yhs mkU cU x.units (n + Yhb cB x.expander.bindings + Yhb cR x.expander.macros + 1 + 1 + 1)), (Yhs mkE cE x.exports (n + Yhb cB x.expander.bindings + Yhb cR x.expander.macros + 1 + 1 + 1 + Yhb cU x.units))⟩
theorem Y1dl (x : World) (n : Int) : mkW x n = ⟨⟨(Yhs mkB cB x.expander.bindings (n)), (Yhs mkR cR x.expander.macros (n + Yhb cB x.expander.bindings)), (n + Yhb cB x.expander.bindings + Yhb cR x.expander.macros), (n + Yhb cB x.expander.bindings + Yhb cR x.expander.macros + 1), (n + Yhb cB x.expander.bindings + Yhb cR x.expander.macros + 1 + 1)⟩, (Yhs mkU cU x.units (n + Yhb cB x.expander.bindings + Yhb cR x.expander.macros + 1 + 1 + 1)), (Yhs mkE cE x.exports (n + Yhb cB x.expander.bindings + Yhb cR x.expander.macros + 1 + 1 + 1 + Yhb cU x.units))⟩ := rfl
instance : Marks mkW cW := ⟨fun x n => by simp only [Y1dl, Yid, Yiw, Yk6], fun x n => by simp only [Y1lw, Y1dl, Yid, Yiw]⟩
end Go.Proofs.YtpnaoendfpaodaaGreat
end
