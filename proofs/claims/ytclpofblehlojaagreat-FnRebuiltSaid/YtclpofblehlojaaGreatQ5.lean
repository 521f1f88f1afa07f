/- Part 5 of the machine. No condition. -/
import Derived.Test.YtclpofblehlojaaGreatQ4
import Derived.Test.YtclpofblehlojaaGreatRows
import Derived.ChangeStays
import Derived.ChangeOld
import Derived.Deep.Slices
set_option linter.unusedVariables false
set_option linter.unusedSimpArgs false
section
namespace Go.Proofs.YtclpofblehlojaaGreat
open Go Ab
theorem wide : Tryz.prog.follows .mixedOrders = true := by kernel_rfl
abbrev OK (c : Ct) : Prop := OKP Tryz.prog c
instance : CoeSort Ct Prop := ⟨OK⟩
instance : Coe Ct Prop := ⟨OK⟩
theorem Yde {K : Ct} {fn : Func} (hc : ∀ xs w, (callFunc K.f xs).run Tryz.prog w = .ok (.enter K.f xs) w) (hf : Tryz.prog.funcs[K.f]? = some fn) (t : Tq Tryz.prog Unit) (he : Yd3 t [] (.fn K.o1 K.r))
  (hb : fn.body = some (fn.body.getD .skip) := by kernel_rfl) (hr : Yhd Tryz.prog (fn.body.getD .skip) (Yrx K.o K.a fn.ntmps) (Yga t noW [] (.fn K.o1 K.r)) (Y1bm Tryz.prog fn.results.toList K.o1 K.r) = Yfm t [] (.fn K.o1 K.r) := by kernel_rfl) : OK K :=
 OKP.of wide hc hf hb t hr he
theorem Ydr {σ : Type} {c : Code} {L : Lp σ} (t : σ -> Tq Tryz.prog σ) (he : ∀ k, L.inv k -> Yd3 (t k) [] (.lp L k))
  (hr : ∀ k, Yhd Tryz.prog c (L.T (L.v k)) (Yga (t k) noW [] (.lp L k)) (Y17z L.I L.Y (L.meas k)) = Yfm (t k) [] (.lp L k) := by intro k; kernel_rfl) : L.Sem Tryz.prog c :=
 Lp.Sem.of wide t hr he
theorem Yfj {α : Type} [Inhabited α] {L : List α} {k : Nat} (h : k < L.length) : L.drop k = L.getD k default :: L.drop (k + 1) := by
 rw [List.drop_eq_getElem_cons h]; simp [h]
theorem Ydn {α : Type} [Inhabited α] {L : List α} {k : Nat} (h : k < L.length) : L.take (k + 1) = L.take k ++ [L.getD k default] := by
 rw [List.take_succ_eq_append_getElem h]; simp [h]
theorem Yd6 {α : Type} [Inhabited α] {L : List α} {k : Nat} (h : k < L.length) : L.getD k default ∈ L := by simp [h]
theorem Y19x (s : ByteArray) : s.data.toList.length = s.size := rfl
theorem Y1ld {n : Int} : rng .i64 n ↔ -9223372036854775808 <= n /\ n <= 9223372036854775807 := Y13y
theorem Y189 (a b : List Ob) : Yrw a b ↔ a = b := Iff.rfl
theorem mIc {g g' : Int -> Int} (h : g = g') : mI g = mI g' := by rw [h]
theorem mOc {g g' : Int -> Option Int} (h : g = g') : mO g = mO g' := by rw [h]
theorem mSc {g g' : ByteArray -> Int} (h : g = g') : mS g = mS g' := by rw [h]
theorem mLc {g g' : ByteArray -> List Int} (h : g = g') : mL g = mL g' := by rw [h]
theorem Yd7 (S : List Int) (n : Int) : S.map Yd2 ++ [[cI n]] = (S ++ [n]).map Yd2 := by simp [Yd2]
theorem Yd8 (S : List ByteArray) (n : ByteArray) : S.map Yf5 ++ [[cS n]] = (S ++ [n]).map Yf5 := by simp [Yf5]
theorem Y1l6 {L : List Int} : ∀ e ∈ L.map Yd2, ∀ c ∈ e, ∃ v, c = Cell.lit v := by
 intro e he c hc
 obtain ⟨x, _, rfl⟩ := List.mem_map.1 he
 rw [List.mem_singleton.1 hc]; exact ⟨_, rfl⟩
theorem Y1ka {L : List ByteArray} : ∀ e ∈ L.map Yf5, ∀ c ∈ e, ∃ v, c = Cell.lit v := by
 intro e he c hc
 obtain ⟨x, _, rfl⟩ := List.mem_map.1 he
 rw [List.mem_singleton.1 hc]; exact ⟨_, rfl⟩
theorem Yq3 {α : Type} [Inhabited α] {f : α -> List Cell} {L : List α} {i : Nat} {x : List Cell} (h : i < L.length) (hx : f (L.getD i default) = x) : (L.map f)[i]? = some x := by
 subst hx; simp [h]
theorem Ywd {α : Type} [Inhabited α] {A B : List α} {k : Nat} (h : k < A.length) (hl : A.length = B.length) : A.take (k + 1) = B.take (k + 1) ↔ A.take k = B.take k /\ A.getD k default = B.getD k default := by
 rw [Ydn h, Ydn (by omega : k < B.length)]
 constructor
 ·intro e
  have := List.append_inj e (by simp; omega)
  exact ⟨this.1, by simpa using this.2⟩
 ·rintro ⟨e1, e2⟩; rw [e1, e2]
theorem Yh2 (a b : ByteArray) : a.data.toList = b.data.toList ↔ a = b := by
 constructor
 ·intro h; cases a; cases b; simp at h; subst h; rfl
 ·intro h; rw [h]
theorem Y1jn (a b : Bool) : AV.sv (lb a) = AV.sv (lb b) ↔ a = b := by simp [lb, vB, cB]
theorem Y1i5 (a b : Int) : AV.sv (li a) = AV.sv (li b) ↔ a = b := by simp [li, vI, cI]
theorem Y1jy (a b : ByteArray) : AV.sv (ls a) = AV.sv (ls b) ↔ a = b := by simp [ls, vS, cS]
def Y116 {α : Type} [Inhabited α] (L : List α) (k : Nat) : List α := L.take k ++ List.replicate (L.length - k) default
theorem Y17k {α : Type} [Inhabited α] (L : List α) (k : Nat) : (Y116 L k).length = L.length := by simp [Y116]; omega
def Y1mb (n : Int) : List Cell := [cI n]
def Y1m1 (n : ByteArray) : List Cell := [cS n]
instance : Row Int Yd2 Y1mb 1 := ⟨fun _ => rfl, fun _ => rfl⟩
instance : Row ByteArray Yf5 Y1m1 1 := ⟨fun _ => rfl, fun _ => rfl⟩
section
variable {α : Type} {C F : α -> List Cell} {n : Nat}
theorem Y1ax [Row α C F n] [Inhabited α] {L : List α} {i : Nat} (h : i < L.length) : (L.map C)[i]? = some (F (L.getD i default)) := Yq3 h (Row.eq _)
theorem Yd4 [Row α C F n] (L : List α) (x : α) : L.map C ++ [F x] = (L ++ [x]).map C := by simp [Row.eq (C := C) (F := F)]
theorem Y1gz [Row α C F n] {L : List α} : ∀ e ∈ L.map C, e.length = n := by
 intro e he
 obtain ⟨x, _, rfl⟩ := List.mem_map.1 he; rw [Row.eq (C := C) (F := F)]; exact Row.len (C := C) x
end
abbrev tx (s : ByteArray) : List UInt8 := s.data.toList
def mkS (l : List UInt8) : ByteArray := ⟨l.toArray⟩
theorem Y182 (l : List UInt8) : ByteArray.mk l.toArray = mkS l := rfl
theorem Y18r (l : List UInt8) : (mkS l).data.toList = l := rfl
theorem Y1f8 (a b : List UInt8) : mkS a = mkS b ↔ a = b := by
 constructor
 ·intro h; have := congrArg (fun s : ByteArray => s.data.toList) h; simpa [mkS] using this
 ·intro h; rw [h]
theorem Y1hk (s : ByteArray) : mkS s.data.toList = s := rfl
theorem Y1db (l : List UInt8) : (mkS l).size = l.length := rfl
theorem std : (∀ s : ByteArray, s.data.toList.length = s.size) /\ (∀ {α β : Type} (f : α -> β) (L : List α), (L.map f).length = L.length) /\ (∀ n : Nat, (n : Int).toNat = n) /\
  (∀ n : Int, rng .i64 n ↔ -9223372036854775808 <= n /\ n <= 9223372036854775807) /\ (∀ a b : List Ob, Yrw a b ↔ a = b) /\ (∀ {α : Type} (a b : List α), (a ++ b).length = a.length + b.length) /\
  (∀ {α : Type} (n : Nat) (a : α), (List.replicate n a).length = n) /\ (∀ {α : Type} [Inhabited α] (L : List α) (k : Nat), (Y116 L k).length = L.length) /\ (∀ (p : Prop) [Decidable p], (decide p = true) = p) /\
  (∀ (p : Prop) [Decidable p], (decide p = false) = ¬ p) /\ (∀ {α : Type} (a b : α), (a ≠ b) = ¬ a = b) /\ (∀ a b : Bool, (AV.sv (lb a) = AV.sv (lb b)) ↔ a = b) /\ (∀ a b : Int, (AV.sv (li a) = AV.sv (li b)) ↔ a = b) /\
  (∀ a b : ByteArray, (AV.sv (ls a) = AV.sv (ls b)) ↔ a = b) /\ (∀ l : List UInt8, ByteArray.mk l.toArray = mkS l) /\ (∀ l : List UInt8, (mkS l).data.toList = l) /\ (∀ a b : List UInt8, mkS a = mkS b ↔ a = b) /\
  (∀ l : List UInt8, (mkS l).size = l.length) /\ (∀ {α β : Type} (f : α -> β) (L : List α) (n : Nat), (L.map f).take n = (L.take n).map f) /\ (∀ {α β : Type} (f : α -> β) (L : List α) (n : Nat), (L.map f).drop n = (L.drop n).map f) /\
  (∀ n : Nat, n - 0 = n) /\ (∀ {α : Type} (L : List α), L.drop 0 = L) :=
 ⟨Y19x, fun _ _ => List.length_map _, Int.toNat_natCast, @Y1ld, Y189, fun _ _ => List.length_append, fun _ _ => List.length_replicate, Y17k, @decide_eq_true_eq, fun p _ => propext (decide_eq_false_iff_not (p := p)), fun a b => rfl, Y1jn, Y1i5, Y1jy, Y182, Y18r, Y1f8, Y1db, fun _ _ _ => List.map_take.symm, fun _ _ _ => List.map_drop.symm, Nat.sub_zero, fun _ => List.drop_zero⟩
theorem inj : (∀ a b : SV, (AV.sv a = AV.sv b) = (a = b)) /\ (∀ l m : List SV, (AV.tup l = AV.tup m) = (l = m)) /\ (∀ l m : List AC, (SV.agg l = SV.agg m) = (l = m)) /\
  (∀ a b : AC, (SV.one a = SV.one b) = (a = b)) /\ (∀ a b : Int, (li a = li b) = (a = b)) /\ (∀ a b : Bool, (lb a = lb b) = (a = b)) /\ (∀ a b : ByteArray, (ls a = ls b) = (a = b)) /\
  (∀ a b : List (List Cell), (ll a = ll b) = (a = b)) /\ (∀ a b : Int, (vI a = vI b) = (a = b)) /\ (∀ a b : Bool, (vB a = vB b) = (a = b)) /\ (∀ a b : ByteArray, (vS a = vS b) = (a = b)) /\ (∀ a b : List (List Cell), (vL a = vL b) = (a = b)) /\
  (∀ o z x y, (Ob.arr o z x = Ob.arr o z y) = (x = y)) /\ (∀ l m, (Ob.box l = Ob.box m) = (l = m)) /\ (∀ (a b : AC) l m, (a :: l = b :: m) = (a = b /\ l = m)) /\ (∀ (a b : SV) l m, (a :: l = b :: m) = (a = b /\ l = m)) /\ (∀ (a b : Ob) l m, (a :: l = b :: m) = (a = b /\ l = m)) /\
  (∀ (a b : Hv) l m, (a :: l = b :: m) = (a = b /\ l = m)) /\ (∀ a b, (Hv.s a = Hv.s b) = (a = b)) /\ (∀ a b, (Hv.o a = Hv.o b) = (a = b)) /\ (∀ a b, (Hv.a a = Hv.a b) = (a = b)) := by
 refine ⟨?_, ?_, ?_, ?_, ?_, ?_, ?_, ?_, ?_, ?_, ?_, ?_, ?_, ?_, ?_, ?_, ?_, ?_, ?_, ?_, ?_⟩ <;> intros <;> (try apply propext) <;> simp [li, lb, ls, ll, vI, vB, vS, vL, cI, cB, cS]
theorem dT {p : Prop} [Decidable p] (h : p) : true = decide p := (decide_eq_true h).symm
theorem dF {p : Prop} [Decidable p] (h : ¬ p) : false = decide p := (decide_eq_false h).symm
theorem z {p : Prop} (h : p := by first | with_reducible rfl | omega | assumption | exact dT ‹_› | exact dF ‹_› | ((first | refine Y1ax ?_ | refine Yq3 ?_ rfl); (first | omega | (simp only [std]; omega) | grind))) : p := h
theorem zR {p : Prop} (h : p := by first | exact Y1l6 | exact Y1ka | exact Y1gz) : p := h
theorem zM {p : Prop} (h : p := by first | exact Y1fq | exact Y1f1 | exact Y1bx | exact Y1fs | exact Y1h1 | exact Y1g6 | exact Y1hg | exact Y1ja | exact Y1i1 | exact Y1jw | exact Y1jo | exact Y1f0 | (refine Y19z ?_; grind)) : p := h
end Go.Proofs.YtclpofblehlojaaGreat
end
section
namespace Go.Proofs.YtclpofblehlojaaGreat
open Go Ab
def sumBy {α : Type} (f : α -> Nat) : List α -> Nat
 | [] => 0
 | x :: r => f x + sumBy f r
theorem Yes {α : Type} (f : α -> Nat) : ∀ (a b : List α), sumBy f (a ++ b) = sumBy f a + sumBy f b
 | [], b => by simp [sumBy]
 | x :: a, b => by simp only [List.cons_append, sumBy, Yes f a b]; omega
theorem Yve {α : Type} [Inhabited α] (f : α -> Nat) {L : List α} {k : Nat} (h : k < L.length) : sumBy f (L.drop k) = f (L.getD k default) + sumBy f (L.drop (k + 1)) := by
 rw [Yfj h, sumBy]
theorem Yew {α : Type} (f : α -> Nat) : ∀ {L : List α} {x : α}, x ∈ L -> f x <= sumBy f L
 | y :: r, x, h => by
  rcases List.mem_cons.1 h with rfl | h
  ·simp only [sumBy]; omega
  ·have := Yew f h; simp only [sumBy]; omega
theorem Ygx {α : Type} [Inhabited α] (c : α -> Nat) {L : List α} {i : Nat} (h : i < L.length) : sumBy c (L.take (i + 1)) = sumBy c (L.take i) + c (L.getD i default) := by
 rw [Ydn h, Yes]; simp [sumBy]
theorem Yg2 {α : Type} (c : α -> Nat) (L : List α) (i : Nat) : sumBy c (L.take i) <= sumBy c L := by
 have := Yes c (L.take i) (L.drop i)
 rw [List.take_append_drop] at this; omega
theorem Ylv {α β : Type} [Inhabited β] (f : α -> β -> α) (a : α) {L : List β} {k : Nat} (h : k < L.length) : (L.take (k + 1)).foldl f a = f ((L.take k).foldl f a) (L.getD k default) := by
 rw [Ydn h, List.foldl_append]; rfl
structure Datum where
 kind : Int
 number : Int
 text : ByteArray
 items : List Datum
instance : Inhabited Datum := ⟨⟨0, 0, .empty, []⟩⟩
mutual
def Ydd : Datum -> List Cell
 | ⟨kind', number', text', items'⟩ => [cI kind', cI number', cS text', .list (Yom items')]
def Yom : List Datum -> List (List Cell)
 | [] => []
 | x :: r => Ydd x :: Yom r
end
theorem Ysn : ∀ l : List Datum, Yom l = l.map Ydd
 | [] => by rw [Yom]; rfl
 | x :: r => by rw [Yom, Ysn r]; rfl
def Yf8 (x : Datum) : List Cell := [cI x.kind, cI x.number, cS x.text, .list (x.items.map Ydd)]
theorem Yqk (x : Datum) : Ydd x = Yf8 x := by cases x; simp only [Ydd, Yf8, Ysn]
mutual
def Ywo : Datum -> Datum -> Bool
 | ⟨kind1, number1, text1, items1⟩, ⟨kind2, number2, text2, items2⟩ => decide (kind1 = kind2) && decide (number1 = number2) && decide (text1 = text2) && Yjk items1 items2
def Yjk : List Datum -> List Datum -> Bool
 | [], [] => true
 | x :: r, y :: t => Ywo x y && Yjk r t
 | _, _ => false
end
mutual
theorem Ysj : ∀ a b : Datum, Ywo a b = true ↔ a = b
 | ⟨kind1, number1, text1, items1⟩, ⟨kind2, number2, text2, items2⟩ => by rw [Ywo]; simp only [Bool.and_eq_true, decide_eq_true_eq, Yrk items1 items2, Datum.mk.injEq, and_assoc]
theorem Yrk : ∀ a b : List Datum, Yjk a b = true ↔ a = b
 | [], [] => by simp [Yjk]
 | [], _ :: _ => by simp [Yjk]
 | _ :: _, [] => by simp [Yjk]
 | x :: r, y :: t => by rw [Yjk, Bool.and_eq_true, Ysj x y, Yrk r t, List.cons.injEq]
end
instance : DecidableEq Datum := fun a b => decidable_of_iff _ (Ysj a b)
mutual
theorem Datum.ind {P : Datum -> Prop} (h : ∀ x, (∀ y ∈ x.items, P y) -> P x) : ∀ x, P x
 | ⟨kind', number', text', items'⟩ => h _ (fun y hy => Datum.inds h items' y hy)
theorem Datum.inds {P : Datum -> Prop} (h : ∀ x, (∀ y ∈ x.items, P y) -> P x) : ∀ (l : List Datum), ∀ y ∈ l, P y
 | [], y, hy => by cases hy
 | x :: r, y, hy => (List.mem_cons.1 hy).elim (fun e => e ▸ Datum.ind h x) (fun hy => Datum.inds h r y hy)
end
instance : Row Datum Ydd Yf8 4 := ⟨Yqk, fun _ => rfl⟩
abbrev Yol (x : Datum) : SV := .agg (vals (Yf8 x))
abbrev Yro (x : Datum) (i : Nat) : SV := .agg [vI x.kind, vI x.number, vS x.text, .ref (i + 0)]
abbrev Yzq (x : Datum) : List Ob := [.arr true 4 (x.items.map Ydd)]
mutual
def wD : Datum -> Nat
 | ⟨_, _, text', items'⟩ => text'.size + wDs items'
def wDs : List Datum -> Nat
 | [] => 0
 | d :: r => 1 + wD d + wDs r
end
theorem Y18y : ∀ l, wDs l = l.length + sumBy wD l
 | [] => by simp [wDs, sumBy]
 | d :: r => by rw [wDs, Y18y r]; simp only [sumBy, List.length_cons]; omega
theorem Yhs (x : Datum) : wD x = x.text.size + (x.items.length + sumBy wD x.items) := by cases x; simp only [wD, Y18y]
structure Core where
 kind : Int
 number : Int
 params : List Int
 datum : Datum
 kids : List Core
instance : Inhabited Core := ⟨⟨0, 0, [], (default : Datum), []⟩⟩
mutual
def Yp9 : Core -> List Cell
 | ⟨kind', number', params', datum', kids'⟩ => [cI kind', cI number', .list (params'.map Yd2), cI datum'.kind, cI datum'.number, cS datum'.text, .list (datum'.items.map Ydd), .list (Yrn kids')]
def Yrn : List Core -> List (List Cell)
 | [] => []
 | x :: r => Yp9 x :: Yrn r
end
theorem Yvi : ∀ l : List Core, Yrn l = l.map Yp9
 | [] => by rw [Yrn]; rfl
 | x :: r => by rw [Yrn, Yvi r]; rfl
def Y17o (x : Core) : List Cell := [cI x.kind, cI x.number, .list (x.params.map Yd2), cI x.datum.kind, cI x.datum.number, cS x.datum.text, .list (x.datum.items.map Ydd), .list (x.kids.map Yp9)]
theorem Y1d7 (x : Core) : Yp9 x = Y17o x := by cases x; simp only [Yp9, Y17o, Yvi]
mutual
def Y12t : Core -> Core -> Bool
 | ⟨kind1, number1, params1, datum1, kids1⟩, ⟨kind2, number2, params2, datum2, kids2⟩ => decide (kind1 = kind2) && decide (number1 = number2) && decide (params1 = params2) && decide (datum1 = datum2) && Ykk kids1 kids2
def Ykk : List Core -> List Core -> Bool
 | [], [] => true
 | x :: r, y :: t => Y12t x y && Ykk r t
 | _, _ => false
end
mutual
theorem Yv3 : ∀ a b : Core, Y12t a b = true ↔ a = b
 | ⟨kind1, number1, params1, datum1, kids1⟩, ⟨kind2, number2, params2, datum2, kids2⟩ => by rw [Y12t]; simp only [Bool.and_eq_true, decide_eq_true_eq, Ysv kids1 kids2, Core.mk.injEq, and_assoc]
theorem Ysv : ∀ a b : List Core, Ykk a b = true ↔ a = b
 | [], [] => by simp [Ykk]
 | [], _ :: _ => by simp [Ykk]
 | _ :: _, [] => by simp [Ykk]
 | x :: r, y :: t => by rw [Ykk, Bool.and_eq_true, Yv3 x y, Ysv r t, List.cons.injEq]
end
instance : DecidableEq Core := fun a b => decidable_of_iff _ (Yv3 a b)
instance : Row Core Yp9 Y17o 8 := ⟨Y1d7, fun _ => rfl⟩
structure YS where
 kind : Int
 number : Int
 text : ByteArray
 scopes : List Int
 items : List YS
instance : Inhabited YS := ⟨⟨0, 0, .empty, [], []⟩⟩
mutual
def Ycz : YS -> List Cell
 | ⟨kind', number', text', scopes', items'⟩ => [cI kind', cI number', cS text', .list (scopes'.map Yd2), .list (Ymx items')]
def Ymx : List YS -> List (List Cell)
 | [] => []
 | x :: r => Ycz x :: Ymx r
end
theorem Yr1 : ∀ l : List YS, Ymx l = l.map Ycz
 | [] => by rw [Ymx]; rfl
 | x :: r => by rw [Ymx, Yr1 r]; rfl
def Yda (x : YS) : List Cell := [cI x.kind, cI x.number, cS x.text, .list (x.scopes.map Yd2), .list (x.items.map Ycz)]
theorem Ym4 (x : YS) : Ycz x = Yda x := by cases x; simp only [Ycz, Yda, Yr1]
mutual
def Ytx : YS -> YS -> Bool
 | ⟨kind1, number1, text1, scopes1, items1⟩, ⟨kind2, number2, text2, scopes2, items2⟩ => decide (kind1 = kind2) && decide (number1 = number2) && decide (text1 = text2) && decide (scopes1 = scopes2) && Yii items1 items2
def Yii : List YS -> List YS -> Bool
 | [], [] => true
 | x :: r, y :: t => Ytx x y && Yii r t
 | _, _ => false
end
mutual
theorem Yr4 : ∀ a b : YS, Ytx a b = true ↔ a = b
 | ⟨kind1, number1, text1, scopes1, items1⟩, ⟨kind2, number2, text2, scopes2, items2⟩ => by rw [Ytx]; simp only [Bool.and_eq_true, decide_eq_true_eq, Ypy items1 items2, YS.mk.injEq, and_assoc]
theorem Ypy : ∀ a b : List YS, Yii a b = true ↔ a = b
 | [], [] => by simp [Yii]
 | [], _ :: _ => by simp [Yii]
 | _ :: _, [] => by simp [Yii]
 | x :: r, y :: t => by rw [Yii, Bool.and_eq_true, Yr4 x y, Ypy r t, List.cons.injEq]
end
instance : DecidableEq YS := fun a b => decidable_of_iff _ (Yr4 a b)
mutual
theorem YS.ind {P : YS -> Prop} (h : ∀ x, (∀ y ∈ x.items, P y) -> P x) : ∀ x, P x
 | ⟨kind', number', text', scopes', items'⟩ => h _ (fun y hy => YS.inds h items' y hy)
theorem YS.inds {P : YS -> Prop} (h : ∀ x, (∀ y ∈ x.items, P y) -> P x) : ∀ (l : List YS), ∀ y ∈ l, P y
 | [], y, hy => by cases hy
 | x :: r, y, hy => (List.mem_cons.1 hy).elim (fun e => e ▸ YS.ind h x) (fun hy => YS.inds h r y hy)
end
theorem Y18h (a b : YS) : a = b ↔ a.kind = b.kind /\ a.number = b.number /\ a.text = b.text /\ a.scopes = b.scopes /\ a.items = b.items := by cases a; cases b; simp only [YS.mk.injEq]
instance : Row YS Ycz Yda 5 := ⟨Ym4, fun _ => rfl⟩
abbrev Ydl (x : YS) : SV := .agg (vals (Yda x))
abbrev Yg6 (x : YS) (i : Nat) : SV := .agg [vI x.kind, vI x.number, vS x.text, .ref (i + 0), .ref (i + 1)]
abbrev Yg5 (x : YS) : List Ob := [.arr true 1 (x.scopes.map Yd2), .arr true 5 (x.items.map Ycz)]
mutual
def wY : YS -> Nat
 | ⟨_, _, text', scopes', items'⟩ => text'.size + scopes'.length + wYs items'
def wYs : List YS -> Nat
 | [] => 0
 | d :: r => 1 + wY d + wYs r
end
theorem Y19i : ∀ l, wYs l = l.length + sumBy wY l
 | [] => by simp [wYs, sumBy]
 | d :: r => by rw [wYs, Y19i r]; simp only [sumBy, List.length_cons]; omega
theorem Yfq (x : YS) : wY x = x.text.size + x.scopes.length + (x.items.length + sumBy wY x.items) := by cases x; simp only [wY, Y19i]
structure YB where
 text : ByteArray
 scopes : List Int
 kind : Int
 number : Int
instance : Inhabited YB := ⟨⟨.empty, [], 0, 0⟩⟩
def Ydq (x : YB) : List Cell := [cS x.text, .list (x.scopes.map Yd2), cI x.kind, cI x.number]
def Yd1 (x : YB) : List Cell := Ydq x
theorem Y13l (x : YB) : Yd1 x = Ydq x := rfl
instance : DecidableEq YB := fun a b => by cases a; cases b; rw [YB.mk.injEq]; infer_instance
instance : Row YB Yd1 Ydq 4 := ⟨Y13l, fun _ => rfl⟩
abbrev Yml (x : YB) : SV := .agg (vals (Ydq x))
abbrev Y12a (x : YB) (i : Nat) : SV := .agg [vS x.text, .ref (i + 0), vI x.kind, vI x.number]
abbrev Y10n (x : YB) : List Ob := [.arr true 1 (x.scopes.map Yd2)]
def wB (x : YB) : Nat := x.text.size + x.scopes.length
theorem Ypn (x : YB) : wB x = x.text.size + x.scopes.length := rfl
structure YR where
 literals : List YS
 patterns : List YS
 templates : List YS
instance : Inhabited YR := ⟨⟨[], [], []⟩⟩
def Yze (x : YR) : List Cell := [.list (x.literals.map Ycz), .list (x.patterns.map Ycz), .list (x.templates.map Ycz)]
def Yw4 (x : YR) : List Cell := Yze x
theorem Y1b5 (x : YR) : Yw4 x = Yze x := rfl
instance : DecidableEq YR := fun a b => by cases a; cases b; rw [YR.mk.injEq]; infer_instance
instance : Row YR Yw4 Yze 3 := ⟨Y1b5, fun _ => rfl⟩
structure YC where
 name : YS
 depth : Int
 form : YS
 each : List YC
instance : Inhabited YC := ⟨⟨(default : YS), 0, (default : YS), []⟩⟩
mutual
def Yd0 : YC -> List Cell
 | ⟨name', depth', form', each'⟩ => [cI name'.kind, cI name'.number, cS name'.text, .list (name'.scopes.map Yd2), .list (name'.items.map Ycz), cI depth', cI form'.kind, cI form'.number, cS form'.text, .list (form'.scopes.map Yd2), .list (form'.items.map Ycz), .list (Yld each')]
def Yld : List YC -> List (List Cell)
 | [] => []
 | x :: r => Yd0 x :: Yld r
end
theorem Ypz : ∀ l : List YC, Yld l = l.map Yd0
 | [] => by rw [Yld]; rfl
 | x :: r => by rw [Yld, Ypz r]; rfl
def Ydj (x : YC) : List Cell := [cI x.name.kind, cI x.name.number, cS x.name.text, .list (x.name.scopes.map Yd2), .list (x.name.items.map Ycz), cI x.depth, cI x.form.kind, cI x.form.number, cS x.form.text, .list (x.form.scopes.map Yd2), .list (x.form.items.map Ycz), .list (x.each.map Yd0)]
theorem Yla (x : YC) : Yd0 x = Ydj x := by cases x; simp only [Yd0, Ydj, Ypz]
mutual
def Yrr : YC -> YC -> Bool
 | ⟨name1, depth1, form1, each1⟩, ⟨name2, depth2, form2, each2⟩ => decide (name1 = name2) && decide (depth1 = depth2) && decide (form1 = form2) && Yi3 each1 each2
def Yi3 : List YC -> List YC -> Bool
 | [], [] => true
 | x :: r, y :: t => Yrr x y && Yi3 r t
 | _, _ => false
end
mutual
theorem Ypx : ∀ a b : YC, Yrr a b = true ↔ a = b
 | ⟨name1, depth1, form1, each1⟩, ⟨name2, depth2, form2, each2⟩ => by rw [Yrr]; simp only [Bool.and_eq_true, decide_eq_true_eq, Yok each1 each2, YC.mk.injEq, and_assoc]
theorem Yok : ∀ a b : List YC, Yi3 a b = true ↔ a = b
 | [], [] => by simp [Yi3]
 | [], _ :: _ => by simp [Yi3]
 | _ :: _, [] => by simp [Yi3]
 | x :: r, y :: t => by rw [Yi3, Bool.and_eq_true, Ypx x y, Yok r t, List.cons.injEq]
end
instance : DecidableEq YC := fun a b => decidable_of_iff _ (Ypx a b)
instance : Row YC Yd0 Ydj 12 := ⟨Yla, fun _ => rfl⟩
structure YE where
 bindings : List YB
 macros : List YR
 scope : Int
 vari : Int
 steps : Int
instance : Inhabited YE := ⟨⟨[], [], 0, 0, 0⟩⟩
def Yqi (x : YE) : List Cell := [.list (x.bindings.map Yd1), .list (x.macros.map Yw4), cI x.scope, cI x.vari, cI x.steps]
def Yyf (x : YE) : List Cell := Yqi x
theorem Yz4 (x : YE) : Yyf x = Yqi x := rfl
instance : DecidableEq YE := fun a b => by cases a; cases b; rw [YE.mk.injEq]; infer_instance
instance : Row YE Yyf Yqi 5 := ⟨Yz4, fun _ => rfl⟩
structure Module where
 name : ByteArray
 imports : List ByteArray
 exports : List ByteArray
 body : List Datum
instance : Inhabited Module := ⟨⟨.empty, [], [], []⟩⟩
def Yx0 (x : Module) : List Cell := [cS x.name, .list (x.imports.map Yf5), .list (x.exports.map Yf5), .list (x.body.map Ydd)]
def Y15y (x : Module) : List Cell := Yx0 x
theorem Y172 (x : Module) : Y15y x = Yx0 x := rfl
instance : DecidableEq Module := fun a b => by cases a; cases b; rw [Module.mk.injEq]; infer_instance
instance : Row Module Y15y Yx0 4 := ⟨Y172, fun _ => rfl⟩
structure Export where
 modul : ByteArray
 text : ByteArray
 kind : Int
 number : Int
instance : Inhabited Export := ⟨⟨.empty, .empty, 0, 0⟩⟩
def Ywb (x : Export) : List Cell := [cS x.modul, cS x.text, cI x.kind, cI x.number]
def Yxh (x : Export) : List Cell := Ywb x
theorem Y17u (x : Export) : Yxh x = Ywb x := rfl
instance : DecidableEq Export := fun a b => by cases a; cases b; rw [Export.mk.injEq]; infer_instance
instance : Row Export Yxh Ywb 4 := ⟨Y17u, fun _ => rfl⟩
structure Unit where
 name : ByteArray
 globals : List Int
 body : Core
instance : Inhabited Unit := ⟨⟨.empty, [], (default : Core)⟩⟩
def Y17v (x : Unit) : List Cell := [cS x.name, .list (x.globals.map Yd2), cI x.body.kind, cI x.body.number, .list (x.body.params.map Yd2), cI x.body.datum.kind, cI x.body.datum.number, cS x.body.datum.text, .list (x.body.datum.items.map Ydd), .list (x.body.kids.map Yp9)]
def Y17f (x : Unit) : List Cell := Y17v x
theorem Y1cg (x : Unit) : Y17f x = Y17v x := rfl
instance : DecidableEq Unit := fun a b => by cases a; cases b; rw [Unit.mk.injEq]; infer_instance
instance : Row Unit Y17f Y17v 10 := ⟨Y1cg, fun _ => rfl⟩
structure World where
 expander : YE
 units : List Unit
 exports : List Export
instance : Inhabited World := ⟨⟨(default : YE), [], []⟩⟩
def Y107 (x : World) : List Cell := [.list (x.expander.bindings.map Yd1), .list (x.expander.macros.map Yw4), cI x.expander.scope, cI x.expander.vari, cI x.expander.steps, .list (x.units.map Y17f), .list (x.exports.map Yxh)]
def Y19o (x : World) : List Cell := Y107 x
theorem Y1ap (x : World) : Y19o x = Y107 x := rfl
instance : DecidableEq World := fun a b => by cases a; cases b; rw [World.mk.injEq]; infer_instance
instance : Row World Y19o Y107 7 := ⟨Y1ap, fun _ => rfl⟩
def sz (w : Nat) (left : Int) : Int := if (w : Int) <= left then left - w else -1
def Yeb {α : Type} (f : α -> Nat) : List α -> Nat
 | [] => 0
 | x :: r => max (f x) (Yeb f r)
theorem Yqx {α : Type} (f : α -> Nat) : ∀ (a b : List α), Yeb f (a ++ b) = max (Yeb f a) (Yeb f b)
 | [], b => by simp [Yeb]
 | x :: a, b => by simp only [List.cons_append, Yeb, Yqx f a b]; omega
theorem Yv9 {α : Type} [Inhabited α] (c : α -> Nat) {L : List α} {i : Nat} (h : i < L.length) : Yeb c (L.take (i + 1)) = max (Yeb c (L.take i)) (c (L.getD i default)) := by
 rw [Ydn h, Yqx]; simp [Yeb]
theorem Yqu {α : Type} (f : α -> Nat) : ∀ {L : List α} {x : α}, x ∈ L -> f x <= Yeb f L
 | y :: r, x, h => by
  rcases List.mem_cons.1 h with rfl | h
  ·simp only [Yeb]; omega
  ·have := Yqu f h; simp only [Yeb]; omega
theorem Y10g {α : Type} (f : α -> Nat) {m : Nat} : ∀ {L : List α}, Yeb f L <= m ↔ ∀ x ∈ L, f x <= m
 | [] => by simp [Yeb]
 | x :: r => by
  have h := Y10g f (m := m) (L := r)
  simp only [Yeb, List.forall_mem_cons, <- h]; omega
def Yeg {α : Type} (f : α -> Int -> Bool × Int) : List α -> Int -> Bool × Int
 | [], m => (true, m)
 | x :: r, m => if (f x m).1 then Yeg f r (f x m).2 else (false, (f x m).2)
theorem Yo1 {α : Type} (f : α -> Int -> Bool × Int) : ∀ (a b : List α) (m : Int), Yeg f (a ++ b) m = if (Yeg f a m).1 then Yeg f b (Yeg f a m).2 else Yeg f a m
 | [], b, m => by simp [Yeg]
 | x :: a, b, m => by
  simp only [List.cons_append, Yeg]
  by_cases e : (f x m).1 = true
  ·simp only [if_pos e]; exact Yo1 f a b _
  ·simp only [if_neg e]; rfl
theorem Yxo {α : Type} [Inhabited α] (f : α -> Int -> Bool × Int) {L : List α} {k : Nat} (h : k < L.length) (m : Int) (ht : (Yeg f (L.take k) m).1 = true) : Yeg f (L.take (k + 1)) m = f (L.getD k default) (Yeg f (L.take k) m).2 := by
 rw [Ydn h, Yo1, if_pos ht]
 simp only [Yeg]
 cases e : (f (L.getD k default) (Yeg f (L.take k) m).2).1 with
 | true => simp only [if_true]; rw [<- e]
 | false => simp only [Bool.false_eq_true, if_false]; rw [<- e]
theorem Y1ae {α : Type} [Inhabited α] (f : α -> Int -> Bool × Int) {L : List α} {k : Nat} (h : k < L.length) (m : Int) (ht : (Yeg f (L.take k) m).1 = true) (hf : (f (L.getD k default) (Yeg f (L.take k) m).2).1 = false) : Yeg f L m = f (L.getD k default) (Yeg f (L.take k) m).2 := by
 have h1 := Yxo f h m ht
 have h2 := Yo1 f (L.take (k + 1)) (L.drop (k + 1)) m
 rw [List.take_append_drop, h1, hf] at h2
 rw [h2]; rfl
theorem Y157 {α : Type} (f : α -> Int -> Bool × Int) (w : α -> Nat) (P : α -> Prop) (M : Int) : ∀ (L : List α), (∀ x ∈ L, ∀ m, m <= M -> ((f x m).1 = true ↔ (m + w x <= M /\ P x)) /\ ((f x m).1 = true -> (f x m).2 = m + w x)) ->
  ∀ m, m <= M -> ((Yeg f L m).1 = true ↔ (m + sumBy w L <= M /\ ∀ x ∈ L, P x)) /\ ((Yeg f L m).1 = true -> (Yeg f L m).2 = m + sumBy w L)
 | [], _, m, hm => by simp [Yeg, sumBy, hm]
 | x :: r, hL, m, hm => by
  have h1 := hL x List.mem_cons_self m hm
  simp only [Yeg, sumBy, List.forall_mem_cons]
  cases e : (f x m).1 with
  | true =>
   have h2 := h1.1.1 e
   have h3 := h1.2 e
   have h4 := Y157 f w P M r (fun y hy => hL y (List.mem_cons_of_mem _ hy)) (m + w x) h2.1
   simp only [if_true, h3]
   constructor
   ·rw [h4.1]; constructor
    ·rintro ⟨a, b⟩; exact ⟨by omega, h2.2, b⟩
    ·rintro ⟨a, _, b⟩; exact ⟨by omega, b⟩
   ·intro ht; rw [h4.2 ht]; omega
  | false =>
   simp only [Bool.false_eq_true, if_false, false_iff]
   refine ⟨?_, False.elim⟩
   rintro ⟨a, b, _⟩
   have := h1.1.2 ⟨by omega, b⟩
   rw [e] at this; exact Bool.noConfusion this
theorem Y1ky {L : List UInt8} {k : Nat} (h : k < L.length) : L.take (k + 1) = L.take k ++ [L.getD k 0] := by
 rw [List.take_succ_eq_append_getElem h]; simp [h]
theorem Yr0 {α : Type} {f g : α -> Nat} : ∀ {L : List α}, (∀ x ∈ L, f x <= g x) -> Yeb f L <= sumBy g L
 | [], _ => Nat.le_refl _
 | x :: l, h => by
  have h1 := h x List.mem_cons_self
  have h2 := Yr0 (L := l) fun y hy => h y (List.mem_cons_of_mem _ hy)
  simp only [sumBy, Yeb]; omega
end Go.Proofs.YtclpofblehlojaaGreat
end
section
namespace Go.Proofs.YtclpofblehlojaaGreat
open Go Go.Proofs.YtclpofblehlojaaGreat.Ab Go.ChangeShapes
section
variable {H : Type} {enc : TypeId × Value -> H} {P : Program} {w : Go.World} {sp : Nat -> Bool} {hd : Bool} {fuel : Nat} {cs : List Value} {x : DataW H × List MemPlace}
abbrev Old (w : Go.World) (b : Nat) : Prop := b < w.heap.size
theorem Y1gd {t : TypeId} (ht : P.underlying t = some (.int .u8)) (h : DataW.trod enc P w 0 sp hd fuel t cs = some x) : ∃ b : UInt8, Ydf (Rd w (Old w)) cs (Ydi b) := by
 obtain ⟨n, rfl, _, hw⟩ := DataW.trod_int ht h
 have hn : 0 <= n /\ n <= 255 := by
  simp only [Lit.wf, Bool.and_eq_true, decide_eq_true_eq] at hw
  exact ⟨hw.1, hw.2⟩
 have e : ((UInt8.ofNat n.toNat).toNat : Int) = n := by
  rw [UInt8.toNat_ofNat_of_lt' (by show n.toNat < 256; omega)]; omega
 refine ⟨UInt8.ofNat n.toNat, ?_⟩
 unfold Ydi
 rw [e]
 exact ⟨.lit trivial, trivial⟩
theorem Y1ds {α : Type} [Inhabited α] {C : α -> List Cell} {t e : TypeId} (ht : P.underlying t = some (.slice e)) (hpos : 0 < P.cellsOf e)
  (hC : ∀ a, (C a).length = P.cellsOf e)
  (hel : ∀ n, n < fuel -> ∀ (cs : List Value) (x : DataW H × List MemPlace), DataW.trod enc P w 0 sp hd n e cs = some x -> ∃ a, Ydf (Rd w (Old w)) cs (C a))
  (h : DataW.trod enc P w 0 sp hd fuel t cs = some x) : ∃ L : List α, Ydf (Rd w (Old w)) cs [.list (L.map C)] := by
 rcases DataW.trod_slice ht h with ⟨rfl, _⟩ | ⟨a, len, cap, elems, rest, n, hn, rfl, _, _, hl, hm, hlen, hel2, _, _⟩
 ·exact ⟨[], Rd.nil, trivial⟩
 have hone : ∀ i, i < len -> ∃ p : List Value × α, w.cells? 0 (a.add (i * P.cellsOf e)) (P.cellsOf e) = some p.1 /\ Ydf (Rd w (Old w)) p.1 (C p.2) := by
  intro i hi
  have hb := hel2 i hi
  rw [List.getElem?_eq_getElem (by omega)] at hb
  obtain ⟨cs', h1, h2⟩ := Option.bind_eq_some_iff.1 hb
  obtain ⟨y, hy⟩ := hel n (by omega) cs' _ h2
  exact ⟨(cs', y), h1, hy⟩
 obtain ⟨f, hf⟩ := Go.Deep.choose_lt hone
 let L : List α := (List.range len).map fun i => (f i).2
 have hL : L.length = len := by simp [L]
 rcases Nat.eq_zero_or_pos len with h0 | h0
 ·subst h0
  have : L = [] := by simp [L]
  exact ⟨[], Rd.nil, trivial⟩
 have hcell : ∀ i k, i < len -> k < P.cellsOf e -> ∃ v c, w.cell? (a.add (i * P.cellsOf e + k)) = some v /\ (C (f i).2)[k]? = some c /\ Rd w (Old w) v c := by
  intro i k hi hk
  obtain ⟨h1, h2⟩ := hf i hi
  obtain ⟨_, h3, h4⟩ := Go.World.cells?_some h1
  have h5 := h4 k hk
  rw [Go.Deep.add_add] at h5
  have h6 : k < (f i).1.length := by omega
  rw [List.getElem?_eq_getElem h6] at h5
  have h7 : k < (C (f i).2).length := by rw [hC]; exact hk
  exact ⟨_, _, h5, List.getElem?_eq_getElem h7, h2.get (List.getElem?_eq_getElem h6) (List.getElem?_eq_getElem h7)⟩
 have hspot : a.spot = none := by
  obtain ⟨v, _, h1, _⟩ := hcell 0 0 h0 hpos
  simp only [Nat.zero_mul, Nat.add_zero, Addr.add, if_true] at h1
  unfold Go.World.cell? at h1
  split at h1
  ·split at h1
   ·cases h1
   ·rename_i hs; simpa using hs
  ·cases h1
 have haddr : ∀ j, a.add j = ⟨a.block, a.off + j, none⟩ := by
  intro j
  unfold Addr.add
  split
  ·rename_i hj; subst hj; cases a; simp_all
  ·rfl
 have hblk : a.block < w.heap.size := by
  obtain ⟨v, _, h1, _⟩ := hcell 0 0 h0 hpos
  unfold Go.World.cell? at h1
  rw [haddr] at h1
  simp only at h1
  cases hh : w.heap[a.block]? with
  | none => rw [hh] at h1; cases h1
  | some o => exact (Array.getElem?_eq_some_iff.1 hh).1
 refine ⟨L, ?_, trivial⟩
 have hval : (Value.slice (some a) len cap) = .slice (some ⟨a.block, a.off, none⟩) (L.map C).length cap := by
  rw [List.length_map, hL]; cases a; simp_all
 rw [hval]
 have hszL : ∀ es ∈ L.map C, es.length = P.cellsOf e := by
  intro es hes; obtain ⟨y, _, rfl⟩ := List.mem_map.1 hes; exact hC y
 have hflat : (L.map C).flatten.length = len * P.cellsOf e := by rw [Yec hszL, List.length_map, hL]
 refine Rd.slice (sz := P.cellsOf e) (xs := (List.range (len * P.cellsOf e)).map fun j => (w.cell? (a.add j)).getD undef) hblk (by rw [List.length_map, hL]; exact hl) hm hszL (by rw [hflat]; simp) ?_ ?_
 ·intro j u hu
  have hj : j < len * P.cellsOf e := by
   have := (List.getElem?_eq_some_iff.1 hu).1; simpa using this
  simp only [List.getElem?_map, List.getElem?_range hj, Option.map_some, Option.some.injEq] at hu
  obtain ⟨v, _, h1, _⟩ := hcell (j / P.cellsOf e) (j % P.cellsOf e) (Nat.div_lt_of_lt_mul (by rw [Nat.mul_comm]; exact hj)) (Nat.mod_lt _ hpos)
  have hdm : j / P.cellsOf e * P.cellsOf e + j % P.cellsOf e = j := by rw [Nat.mul_comm]; exact Nat.div_add_mod j _
  rw [hdm] at h1
  rw [h1] at hu
  rw [<- haddr, h1]
  simpa using hu
 ·intro j u c hu hc
  have hj : j < len * P.cellsOf e := by
   have := (List.getElem?_eq_some_iff.1 hu).1; simpa using this
  simp only [List.getElem?_map, List.getElem?_range hj, Option.map_some, Option.some.injEq] at hu
  have hi : j / P.cellsOf e < len := Nat.div_lt_of_lt_mul (by rw [Nat.mul_comm]; exact hj)
  obtain ⟨v, c', h1, h2, h3⟩ := hcell (j / P.cellsOf e) (j % P.cellsOf e) hi (Nat.mod_lt _ hpos)
  have hdm : j / P.cellsOf e * P.cellsOf e + j % P.cellsOf e = j := by rw [Nat.mul_comm]; exact Nat.div_add_mod j _
  rw [hdm] at h1
  rw [h1] at hu
  have hLi : (L.map C)[j / P.cellsOf e]? = some (C (f (j / P.cellsOf e)).2) := by simp [L, hi]
  have := Yfp hszL hLi h2
  rw [hdm, hc] at this
  simp only [Option.some.injEq] at this
  subst this
  simp only [Option.getD_some] at hu
  subst hu
  exact h3
theorem Y13o {W W' : Go.World} (hk : W.kept W') {p : MemPlace} (hp : p.block < W.heap.size) : W.sameAt W' p := by
 cases p with
 | cell b off => exact Ygl (hk.2.2 b hp)
 | map b => exact hk.2.2 b hp
theorem Yrh {W W' : Go.World} (hl : laidOutB P = true) (hmr : mapsRowed P = true) (hsz : ((List.range P.types.size).all fun t => match P.underlying t with | some (.slice e) => decide (0 < P.cellsOf e) | _ => true) = true)
  (hk : W.kept W') {sp : Nat -> Bool} : ∀ {ts : List TypeId} {vs : List Value} {ds : List (DataW H)} {ps : List MemPlace}, (∀ t ∈ ts, t < P.types.size) -> DataW.TrodAll enc P W 0 (fun _ => true) true ts vs ds ps -> (∀ p ∈ ps, sp p.block = true) ->
   DataW.TrodAll enc P W' 0 sp true ts vs ds ps
 | [], [], [], ps, _, h, _ => h
 | t :: ts, v :: vs, d :: ds, ps, ht, ⟨p, q, ⟨fuel, hf⟩, h2, e⟩, hs => by
  subst e
  have hlt := DataW.trod_lt _ _ _ _ hf
  refine ⟨p, q, ⟨fuel, DataW.trod_stays (kids_rows hl hmr) (fun {t e} ht hu => ?_) (fun hh => by cases hh) (ht t List.mem_cons_self) hf (fun y hy => Y13o hk (hlt y hy)) (fun y hy => hs y (List.mem_append_left _ hy))⟩,
   Yrh hl hmr hsz hk (fun t ht' => ht t (List.mem_cons_of_mem _ ht')) h2 (fun y hy => hs y (List.mem_append_right _ hy)), rfl⟩
  have := List.all_eq_true.1 hsz t (List.mem_range.2 ht)
  rw [hu] at this
  simpa using this
 | [], _ :: _, _, _, _, h, _ => h.elim
 | [], [], _ :: _, _, _, h, _ => h.elim
 | _ :: _, [], _, _, _, h, _ => h.elim
 | _ :: _, _ :: _, [], _, _, h, _ => h.elim
theorem Y1fo {W : Go.World} {v : Value} {c : Cell} (hv : v.cells = #[v]) (hc : Ydf (Rd W (Old W)) v.cells.toList [c]) : Yea W (Yxd W) (Yep []) (.one (.val c)) v := by
 rw [hv] at hc
 exact ⟨hc.1, fun _ => hc.1.one⟩
end
end Go.Proofs.YtclpofblehlojaaGreat
end
section
namespace Go.Proofs.YtclpofblehlojaaGreat
open Go
set_option maxRecDepth 100000
def Yye : List Char := (List.map Char.ofNat [104, 97, 114, 110, 101, 115, 115, 32, 98, 99, 101, 52, 102, 99, 53, 100, 97, 55, 49, 48, 98, 102, 48, 57, 49, 99, 51, 100, 101, 53, 102, 102, 52, 57, 51, 99, 98, 49, 57, 99, 51, 102, 50, 56, 51, 52, 48, 100, 51, 102, 51, 50, 54, 51, 98, 100, 98, 57, 100, 102, 56, 57, 50, 56, 55, 53, 55, 101, 52, 51, 54, 99, 32, 99, 117, 116, 32, 97, 116, 32, 108, 111, 111, 112, 46, 101, 120, 97, 109, 112, 108, 101, 47, 103, 48, 51, 50, 50, 48, 47, 108, 97, 119, 115, 46, 70, 110, 82, 101, 98, 117, 105, 108, 116, 32, 108, 111, 111, 112, 46, 101, 120, 97, 109, 112, 108, 101, 47, 103, 48, 51, 50, 50, 48, 47, 108, 97, 119, 115, 46, 70, 110, 73, 110, 103, 114, 101, 100, 105, 101, 110, 116, 115, 32, 108, 111, 111, 112, 46, 101, 120, 97, 109, 112, 108, 101, 47, 103, 48, 51, 50, 50, 48, 47, 108, 97, 119, 115, 46, 70, 110, 69, 120, 97, 99, 116, 73, 115, 87, 111, 114, 108, 100])
def Yh0 : List (List Char) := [(List.map Char.ofNat [104, 97, 114, 110, 101, 115, 115]),
 (List.map Char.ofNat [98, 99, 101, 52, 102, 99, 53, 100, 97, 55, 49, 48, 98, 102, 48, 57, 49, 99, 51, 100, 101, 53, 102, 102, 52, 57, 51, 99, 98, 49, 57, 99, 51, 102, 50, 56, 51, 52, 48, 100, 51, 102, 51, 50, 54, 51, 98, 100, 98, 57, 100, 102, 56, 57, 50, 56, 55, 53, 55, 101, 52, 51, 54, 99]),
 (List.map Char.ofNat [99, 117, 116]),
 (List.map Char.ofNat [97, 116]),
 (List.map Char.ofNat [108, 111, 111, 112, 46, 101, 120, 97, 109, 112, 108, 101, 47, 103, 48, 51, 50, 50, 48, 47, 108, 97, 119, 115, 46, 70, 110, 82, 101, 98, 117, 105, 108, 116]),
 (List.map Char.ofNat [108, 111, 111, 112, 46, 101, 120, 97, 109, 112, 108, 101, 47, 103, 48, 51, 50, 50, 48, 47, 108, 97, 119, 115, 46, 70, 110, 73, 110, 103, 114, 101, 100, 105, 101, 110, 116, 115]),
 (List.map Char.ofNat [108, 111, 111, 112, 46, 101, 120, 97, 109, 112, 108, 101, 47, 103, 48, 51, 50, 50, 48, 47, 108, 97, 119, 115, 46, 70, 110, 69, 120, 97, 99, 116, 73, 115, 87, 111, 114, 108, 100])]
theorem Y1a2 : Tryz.pinned.checked.prog.initOrder = String.ofList Yye := by kernel_rfl
theorem Y170 : wordsSigns Yye = Yh0 := by kernel_rfl
theorem Y16y : wordsSigns Tryz.pinned.checked.prog.initOrder.toList = Yh0 := by rw [Y1a2, String.toList_ofList]; exact Y170
theorem Y17p : stripLifts liftWords (behindMainWord Yh0) = ([], behindMainWord Yh0) := by kernel_rfl
theorem Y1ak (P : Program) (h : wordsSigns P.initOrder.toList = Yh0) (h1 : P.laysLater = false) (h2 : P.bearsReflect = false) (h3 : P.doorFits [] = true) : P.mayEnter = true := by
 have e : behindMainWord Yh0 = (List.map Char.ofNat [99, 117, 116]) :: (behindMainWord Yh0).tail := by kernel_rfl
 have t := Y17p
 unfold Program.mayEnter; rw [h]
 rw [e] at t ⊢
 simp only [t, h1, h2, h3]
 decide +kernel
theorem Y1ci (P : Program) (h : wordsSigns P.initOrder.toList = Yh0) : P.make = some .cut := by
 unfold Program.make; rw [h]; kernel_rfl
theorem Y1d1 (P : Program) (h : wordsSigns P.initOrder.toList = Yh0) : P.liftsFinal = false := by
 unfold Program.liftsFinal Program.headLifts; rw [h]; kernel_rfl
theorem Y1kn {a b : Bool} (h : a = true) (g : b = true) : (a && b) = true := by rw [h, g]; rfl
theorem Y1ho : Tryz.pinned.checked.prog.mayEnter = true := Y1ak _ Y16y (by kernel_rfl) (by kernel_rfl) (by kernel_rfl)
theorem Y1l5 : Tryz.pinned.checked.prog.make = some .cut := Y1ci _ Y16y
theorem Y1km : Tryz.pinned.checked.prog.liftsFinal = false := Y1d1 _ Y16y
end Go.Proofs.YtclpofblehlojaaGreat
end
