/- The abstract machine on which the proofs stand, the data and what reads them, part 5. No condition. -/
import Derived.Test.YtclpofblehlojaaGreatQ4
import Derived.Test.YtclpofblehlojaaGreatRows
import Derived.ChangeStays
import Derived.ChangeOld
import Derived.Deep.Slices
section
namespace Go.Proofs.YtclpofblehlojaaGreat
open Go Go.Proofs.YtclpofblehlojaaGreat.Ab
set_option linter.unusedVariables false
theorem wide : Tryz.prog.follows .mixedOrders = true := by kernel_rfl
abbrev OK (c : Ct) : Prop := OKP Tryz.prog c
instance : CoeSort Ct Prop := ⟨OK⟩
instance : Coe Ct Prop := ⟨OK⟩
theorem fnOK {K : Ct} {fn : Func} (hc : ∀ xs w, (callFunc K.f xs).run Tryz.prog w = .ok (.enter K.f xs) w) (hf : Tryz.prog.funcs[K.f]? = some fn) (t : Tq Tryz.prog Unit) (he : teasy t [] (.fn K.o1 K.r))
    (hb : fn.body = some (fn.body.getD .skip) := by kernel_rfl) (hr : aexec Tryz.prog (fn.body.getD .skip) (entry K.o K.a fn.ntmps) (torc t noW [] (.fn K.o1 K.r)) (finK Tryz.prog fn.results.toList K.o1 K.r) = treal t [] (.fn K.o1 K.r) := by kernel_rfl) : OK K :=
  OKP.of wide hc hf hb t hr he
theorem lpOK {σ : Type} {c : Code} {L : Lp σ} (t : σ → Tq Tryz.prog σ) (he : ∀ k, L.inv k → teasy (t k) [] (.lp L k))
    (hr : ∀ k, aexec Tryz.prog c (L.T (L.v k)) (torc (t k) noW [] (.lp L k)) (loopK L.I L.Y (L.meas k)) = treal (t k) [] (.lp L k) := by intro k; kernel_rfl) : L.Sem Tryz.prog c :=
  Lp.Sem.of wide t hr he
theorem drop_get {α : Type} [Inhabited α] {L : List α} {k : Nat} (h : k < L.length) : L.drop k = L.getD k default :: L.drop (k + 1) := by
  rw [List.drop_eq_getElem_cons h]; simp [h]
theorem take_get {α : Type} [Inhabited α] {L : List α} {k : Nat} (h : k < L.length) : L.take (k + 1) = L.take k ++ [L.getD k default] := by
  rw [List.take_succ_eq_append_getElem h]; simp [h]
theorem getD_mem' {α : Type} [Inhabited α] {L : List α} {k : Nat} (h : k < L.length) : L.getD k default ∈ L := by simp [h]
theorem size_list (s : ByteArray) : s.data.toList.length = s.size := rfl
theorem rng64 {n : Int} : rng .i64 n ↔ -9223372036854775808 ≤ n ∧ n ≤ 9223372036854775807 := rng_i64
theorem obsEq_iff (a b : List Ob) : ObsEq a b ↔ a = b := Iff.rfl
theorem mIc {g g' : Int → Int} (h : g = g') : mI g = mI g' := by rw [h]
theorem mOc {g g' : Int → Option Int} (h : g = g') : mO g = mO g' := by rw [h]
theorem mSc {g g' : ByteArray → Int} (h : g = g') : mS g = mS g' := by rw [h]
theorem mLc {g g' : ByteArray → List Int} (h : g = g') : mL g = mL g' := by rw [h]
theorem snocI (S : List Int) (n : Int) : S.map intC ++ [[cI n]] = (S ++ [n]).map intC := by simp [intC]
theorem snocS (S : List ByteArray) (n : ByteArray) : S.map strC ++ [[cS n]] = (S ++ [n]).map strC := by simp [strC]
theorem flatI {L : List Int} : ∀ e ∈ L.map intC, ∀ c ∈ e, ∃ v, c = Cell.lit v := by
  intro e he c hc
  obtain ⟨x, _, rfl⟩ := List.mem_map.1 he
  rw [List.mem_singleton.1 hc]; exact ⟨_, rfl⟩
theorem flatS {L : List ByteArray} : ∀ e ∈ L.map strC, ∀ c ∈ e, ∃ v, c = Cell.lit v := by
  intro e he c hc
  obtain ⟨x, _, rfl⟩ := List.mem_map.1 he
  rw [List.mem_singleton.1 hc]; exact ⟨_, rfl⟩
theorem getC {α : Type} [Inhabited α] {f : α → List Cell} {L : List α} {i : Nat} {x : List Cell} (h : i < L.length) (hx : f (L.getD i default) = x) : (L.map f)[i]? = some x := by
  subst hx; simp [h]
theorem take_eq {α : Type} [Inhabited α] {A B : List α} {k : Nat} (h : k < A.length) (hl : A.length = B.length) : A.take (k + 1) = B.take (k + 1) ↔ A.take k = B.take k ∧ A.getD k default = B.getD k default := by
  rw [take_get h, take_get (by omega : k < B.length)]
  constructor
  · intro e
    have := List.append_inj e (by simp; omega)
    exact ⟨this.1, by simpa using this.2⟩
  · rintro ⟨e1, e2⟩; rw [e1, e2]
theorem bytes_ext (a b : ByteArray) : a.data.toList = b.data.toList ↔ a = b := by
  constructor
  · intro h; cases a; cases b; simp at h; subst h; rfl
  · intro h; rw [h]
theorem lb_inj (a b : Bool) : AV.sv (lb a) = AV.sv (lb b) ↔ a = b := by simp [lb, vB, cB]
theorem li_inj (a b : Int) : AV.sv (li a) = AV.sv (li b) ↔ a = b := by simp [li, vI, cI]
theorem ls_inj (a b : ByteArray) : AV.sv (ls a) = AV.sv (ls b) ↔ a = b := by simp [ls, vS, cS]
def fillTo {α : Type} [Inhabited α] (L : List α) (k : Nat) : List α := L.take k ++ List.replicate (L.length - k) default
theorem fillTo_len {α : Type} [Inhabited α] (L : List α) (k : Nat) : (fillTo L k).length = L.length := by simp [fillTo]; omega
theorem fillTo_zero {α : Type} [Inhabited α] (L : List α) : fillTo L 0 = List.replicate L.length default := by simp [fillTo]
theorem fillTo_all {α : Type} [Inhabited α] (L : List α) {k : Nat} (h : L.length ≤ k) : fillTo L k = L := by simp [fillTo, List.take_of_length_le h, Nat.sub_eq_zero_of_le h]
theorem fillTo_set {α : Type} [Inhabited α] {L : List α} {k : Nat} (h : k < L.length) : (fillTo L k).set k (L.getD k default) = fillTo L (k + 1) := by
  unfold fillTo
  rw [take_get h, show L.length - k = L.length - (k + 1) + 1 by omega, List.replicate_succ, List.set_append_right _ _ (by simp; omega)]
  have : k - (List.take k L).length = 0 := by simp; omega
  rw [this]; simp
theorem fill_step {α : Type} [Inhabited α] {f : α → List Cell} {L : List α} {k : Nat} {c : List Cell} (h : k < L.length) (hx : f (L.getD k default) = c) :
    ((fillTo L k).map f).set k c = (fillTo L (k + 1)).map f := by
  subst hx; rw [← List.map_set, fillTo_set h]
theorem fill_init {α : Type} [Inhabited α] {f : α → List Cell} {L : List α} {c : List Cell} (hx : f default = c) : List.replicate L.length c = (fillTo L 0).map f := by
  subst hx; simp [fillTo_zero]
def intF (n : Int) : List Cell := [cI n]
def strF (n : ByteArray) : List Cell := [cS n]
instance : Row Int intC intF 1 := ⟨fun _ => rfl, fun _ => rfl⟩
instance : Row ByteArray strC strF 1 := ⟨fun _ => rfl, fun _ => rfl⟩
section
variable {α : Type} {C F : α → List Cell} {n : Nat}
theorem rowGet [Row α C F n] [Inhabited α] {L : List α} {i : Nat} (h : i < L.length) : (L.map C)[i]? = some (F (L.getD i default)) := getC h (Row.eq _)
theorem rowSnoc [Row α C F n] (L : List α) (x : α) : L.map C ++ [F x] = (L ++ [x]).map C := by simp [Row.eq (C := C) (F := F)]
theorem rowLens [Row α C F n] {L : List α} : ∀ e ∈ L.map C, e.length = n := by
  intro e he
  obtain ⟨x, _, rfl⟩ := List.mem_map.1 he; rw [Row.eq (C := C) (F := F)]; exact Row.len (C := C) x
end
def mkS (l : List UInt8) : ByteArray := ⟨l.toArray⟩
theorem mk_toArray (l : List UInt8) : ByteArray.mk l.toArray = mkS l := rfl
theorem tx_mkS (l : List UInt8) : (mkS l).data.toList = l := rfl
theorem mkS_inj (a b : List UInt8) : mkS a = mkS b ↔ a = b := by
  constructor
  · intro h; have := congrArg (fun s : ByteArray => s.data.toList) h; simpa [mkS] using this
  · intro h; rw [h]
theorem size_mkS (l : List UInt8) : (mkS l).size = l.length := rfl
theorem std : (∀ s : ByteArray, s.data.toList.length = s.size) ∧ (∀ {α β : Type} (f : α → β) (L : List α), (L.map f).length = L.length) ∧ (∀ n : Nat, (n : Int).toNat = n) ∧
    (∀ n : Int, rng .i64 n ↔ -9223372036854775808 ≤ n ∧ n ≤ 9223372036854775807) ∧ (∀ a b : List Ob, ObsEq a b ↔ a = b) ∧ (∀ {α : Type} (a b : List α), (a ++ b).length = a.length + b.length) ∧
    (∀ {α : Type} (n : Nat) (a : α), (List.replicate n a).length = n) ∧ (∀ {α : Type} [Inhabited α] (L : List α) (k : Nat), (fillTo L k).length = L.length) ∧ (∀ (p : Prop) [Decidable p], (decide p = true) = p) ∧
    (∀ (p : Prop) [Decidable p], (decide p = false) = ¬ p) ∧ (∀ {α : Type} (a b : α), (a ≠ b) = ¬ a = b) ∧ (∀ a b : Bool, (AV.sv (lb a) = AV.sv (lb b)) ↔ a = b) ∧ (∀ a b : Int, (AV.sv (li a) = AV.sv (li b)) ↔ a = b) ∧
    (∀ a b : ByteArray, (AV.sv (ls a) = AV.sv (ls b)) ↔ a = b) ∧ (∀ l : List UInt8, ByteArray.mk l.toArray = mkS l) ∧ (∀ l : List UInt8, (mkS l).data.toList = l) ∧ (∀ a b : List UInt8, mkS a = mkS b ↔ a = b) ∧
    (∀ l : List UInt8, (mkS l).size = l.length) ∧ (∀ {α β : Type} (f : α → β) (L : List α) (n : Nat), (L.map f).take n = (L.take n).map f) ∧ (∀ {α β : Type} (f : α → β) (L : List α) (n : Nat), (L.map f).drop n = (L.drop n).map f) ∧
    (∀ n : Nat, n - 0 = n) ∧ (∀ {α : Type} (L : List α), L.drop 0 = L) :=
  ⟨size_list, fun _ _ => List.length_map _, Int.toNat_natCast, @rng64, obsEq_iff, fun _ _ => List.length_append, fun _ _ => List.length_replicate, fillTo_len, @decide_eq_true_eq, fun p _ => propext (decide_eq_false_iff_not (p := p)), fun a b => rfl, lb_inj, li_inj, ls_inj, mk_toArray, tx_mkS, mkS_inj, size_mkS, fun _ _ _ => List.map_take.symm, fun _ _ _ => List.map_drop.symm, Nat.sub_zero, fun _ => List.drop_zero⟩
theorem inj : (∀ a b : SV, (AV.sv a = AV.sv b) = (a = b)) ∧ (∀ l m : List SV, (AV.tup l = AV.tup m) = (l = m)) ∧ (∀ l m : List AC, (SV.agg l = SV.agg m) = (l = m)) ∧
    (∀ a b : AC, (SV.one a = SV.one b) = (a = b)) ∧ (∀ a b : Int, (li a = li b) = (a = b)) ∧ (∀ a b : Bool, (lb a = lb b) = (a = b)) ∧ (∀ a b : ByteArray, (ls a = ls b) = (a = b)) ∧
    (∀ a b : List (List Cell), (ll a = ll b) = (a = b)) ∧ (∀ a b : Int, (vI a = vI b) = (a = b)) ∧ (∀ a b : Bool, (vB a = vB b) = (a = b)) ∧ (∀ a b : ByteArray, (vS a = vS b) = (a = b)) ∧ (∀ a b : List (List Cell), (vL a = vL b) = (a = b)) ∧
    (∀ o z x y, (Ob.arr o z x = Ob.arr o z y) = (x = y)) ∧ (∀ l m, (Ob.box l = Ob.box m) = (l = m)) ∧ (∀ (a b : AC) l m, (a :: l = b :: m) = (a = b ∧ l = m)) ∧ (∀ (a b : SV) l m, (a :: l = b :: m) = (a = b ∧ l = m)) ∧ (∀ (a b : Ob) l m, (a :: l = b :: m) = (a = b ∧ l = m)) ∧
    (∀ (a b : Hv) l m, (a :: l = b :: m) = (a = b ∧ l = m)) ∧ (∀ a b, (Hv.s a = Hv.s b) = (a = b)) ∧ (∀ a b, (Hv.o a = Hv.o b) = (a = b)) ∧ (∀ a b, (Hv.a a = Hv.a b) = (a = b)) := by
  refine ⟨?_, ?_, ?_, ?_, ?_, ?_, ?_, ?_, ?_, ?_, ?_, ?_, ?_, ?_, ?_, ?_, ?_, ?_, ?_, ?_, ?_⟩ <;> intros <;> (try apply propext) <;> simp [li, lb, ls, ll, vI, vB, vS, vL, cI, cB, cS]
theorem dT {p : Prop} [Decidable p] (h : p) : true = decide p := (decide_eq_true h).symm
theorem dF {p : Prop} [Decidable p] (h : ¬ p) : false = decide p := (decide_eq_false h).symm
theorem z {p : Prop} (h : p := by first | with_reducible rfl | omega | assumption | exact dT ‹_› | exact dF ‹_› | ((first | refine rowGet ?_ | refine getC ?_ rfl); (first | omega | (simp only [std]; omega) | grind))) : p := h
theorem zR {p : Prop} (h : p := by first | exact flatI | exact flatS | exact rowLens) : p := h
theorem zM {p : Prop} (h : p := by first | exact look_mI | exact look_mO | exact look_mO1 | exact look_mS | exact look_mL | exact look_mP | exact upd_mI | exact upd_mO | exact del_mO | exact upd_mS | exact upd_mP | exact take_mL | (refine upd_mL ?_; grind)) : p := h
theorem zF {p : Prop} (h : p := by first | (refine fill_step ?_ ?_; (first | omega | (simp only [std]; omega) | grind); (first | rfl | exact (Row.eq _).trans rfl)) | (refine fill_init ?_; (first | rfl | exact (Row.eq _).trans rfl))) : p := h
end Go.Proofs.YtclpofblehlojaaGreat
end
section
namespace Go.Proofs.YtclpofblehlojaaGreat
open Go Go.Proofs.YtclpofblehlojaaGreat.Ab
set_option linter.unusedVariables false
def sumBy {α : Type} (f : α → Nat) : List α → Nat
  | [] => 0
  | x :: r => f x + sumBy f r
theorem sumBy_append {α : Type} (f : α → Nat) : ∀ (a b : List α), sumBy f (a ++ b) = sumBy f a + sumBy f b
  | [], b => by simp [sumBy]
  | x :: a, b => by simp only [List.cons_append, sumBy, sumBy_append f a b]; omega
theorem sumBy_mem {α : Type} (f : α → Nat) : ∀ {L : List α} {x : α}, x ∈ L → f x ≤ sumBy f L
  | y :: r, x, h => by
    rcases List.mem_cons.1 h with rfl | h
    · simp only [sumBy]; omega
    · have := sumBy_mem f h; simp only [sumBy]; omega
theorem sumBy_step {α : Type} [Inhabited α] (c : α → Nat) {L : List α} {i : Nat} (h : i < L.length) : sumBy c (L.take (i + 1)) = sumBy c (L.take i) + c (L.getD i default) := by
  rw [take_get h, sumBy_append]; simp [sumBy]
theorem sumBy_takeLe {α : Type} (c : α → Nat) (L : List α) (i : Nat) : sumBy c (L.take i) ≤ sumBy c L := by
  have := sumBy_append c (L.take i) (L.drop i)
  rw [List.take_append_drop] at this; omega
def wS (L : List ByteArray) : Nat := L.length + sumBy ByteArray.size L
theorem foldl_step {α β : Type} [Inhabited β] (f : α → β → α) (a : α) {L : List β} {k : Nat} (h : k < L.length) : (L.take (k + 1)).foldl f a = f ((L.take k).foldl f a) (L.getD k default) := by
  rw [take_get h, List.foldl_append]; rfl
theorem foldl_len {α β : Type} (f : List α → β → List α) (w : β → Nat) : ∀ (L : List β), (∀ y ∈ L, ∀ o, (f o y).length ≤ o.length + 1 + w y) → ∀ o, (L.foldl f o).length ≤ o.length + L.length + sumBy w L
  | [], _, o => by simp [sumBy]
  | x :: r, hL, o => by
    have h1 := hL x List.mem_cons_self o
    have h2 := foldl_len f w r (fun y hy => hL y (List.mem_cons_of_mem _ hy)) (f o x)
    simp only [List.foldl_cons, sumBy, List.length_cons]; omega
structure Datum where
  kind : Int
  number : Int
  text : ByteArray
  items : List Datum
instance : Inhabited Datum := ⟨⟨0, 0, .empty, []⟩⟩
mutual
def datumC : Datum → List Cell
  | ⟨kind', number', text', items'⟩ => [cI kind', cI number', cS text', .list (datumCs items')]
def datumCs : List Datum → List (List Cell)
  | [] => []
  | x :: r => datumC x :: datumCs r
end
theorem datumCs_map : ∀ l : List Datum, datumCs l = l.map datumC
  | [] => by rw [datumCs]; rfl
  | x :: r => by rw [datumCs, datumCs_map r]; rfl
def datumF (x : Datum) : List Cell := [cI x.kind, cI x.number, cS x.text, .list (x.items.map datumC)]
theorem datumC_eq (x : Datum) : datumC x = datumF x := by cases x; simp only [datumC, datumF, datumCs_map]
mutual
def datumEq : Datum → Datum → Bool
  | ⟨kind1, number1, text1, items1⟩, ⟨kind2, number2, text2, items2⟩ => decide (kind1 = kind2) && decide (number1 = number2) && decide (text1 = text2) && datumEqs items1 items2
def datumEqs : List Datum → List Datum → Bool
  | [], [] => true
  | x :: r, y :: t => datumEq x y && datumEqs r t
  | _, _ => false
end
mutual
theorem datumEq_iff : ∀ a b : Datum, datumEq a b = true ↔ a = b
  | ⟨kind1, number1, text1, items1⟩, ⟨kind2, number2, text2, items2⟩ => by rw [datumEq]; simp only [Bool.and_eq_true, decide_eq_true_eq, datumEqs_iff items1 items2, Datum.mk.injEq, and_assoc]
theorem datumEqs_iff : ∀ a b : List Datum, datumEqs a b = true ↔ a = b
  | [], [] => by simp [datumEqs]
  | [], _ :: _ => by simp [datumEqs]
  | _ :: _, [] => by simp [datumEqs]
  | x :: r, y :: t => by rw [datumEqs, Bool.and_eq_true, datumEq_iff x y, datumEqs_iff r t, List.cons.injEq]
end
instance : DecidableEq Datum := fun a b => decidable_of_iff _ (datumEq_iff a b)
mutual
theorem Datum.ind {P : Datum → Prop} (h : ∀ x, (∀ y ∈ x.items, P y) → P x) : ∀ x, P x
  | ⟨kind', number', text', items'⟩ => h _ (fun y hy => Datum.inds h items' y hy)
theorem Datum.inds {P : Datum → Prop} (h : ∀ x, (∀ y ∈ x.items, P y) → P x) : ∀ (l : List Datum), ∀ y ∈ l, P y
  | [], y, hy => by cases hy
  | x :: r, y, hy => (List.mem_cons.1 hy).elim (fun e => e ▸ Datum.ind h x) (fun hy => Datum.inds h r y hy)
end
theorem datumExt (a b : Datum) : a = b ↔ a.kind = b.kind ∧ a.number = b.number ∧ a.text = b.text ∧ a.items = b.items := by cases a; cases b; simp only [Datum.mk.injEq]
instance : Row Datum datumC datumF 4 := ⟨datumC_eq, fun _ => rfl⟩
abbrev datumA (x : Datum) : SV := .agg (vals (datumF x))
abbrev datumR (x : Datum) (i : Nat) : SV := .agg [vI x.kind, vI x.number, vS x.text, .ref (i + 0)]
abbrev datumO (x : Datum) : List Ob := [.arr true 4 (x.items.map datumC)]
mutual
def wD : Datum → Nat
  | ⟨_, _, text', items'⟩ => text'.size + wDs items'
def wDs : List Datum → Nat
  | [] => 0
  | d :: r => 1 + wD d + wDs r
end
theorem wDs_eq : ∀ l, wDs l = l.length + sumBy wD l
  | [] => by simp [wDs, sumBy]
  | d :: r => by rw [wDs, wDs_eq r]; simp only [sumBy, List.length_cons]; omega
theorem wD_eq (x : Datum) : wD x = x.text.size + (x.items.length + sumBy wD x.items) := by cases x; simp only [wD, wDs_eq]
structure Core where
  kind : Int
  number : Int
  params : List Int
  datum : Datum
  kids : List Core
instance : Inhabited Core := ⟨⟨0, 0, [], (default : Datum), []⟩⟩
mutual
def coreC : Core → List Cell
  | ⟨kind', number', params', datum', kids'⟩ => [cI kind', cI number', .list (params'.map intC), cI datum'.kind, cI datum'.number, cS datum'.text, .list (datum'.items.map datumC), .list (coreCs kids')]
def coreCs : List Core → List (List Cell)
  | [] => []
  | x :: r => coreC x :: coreCs r
end
theorem coreCs_map : ∀ l : List Core, coreCs l = l.map coreC
  | [] => by rw [coreCs]; rfl
  | x :: r => by rw [coreCs, coreCs_map r]; rfl
def coreF (x : Core) : List Cell := [cI x.kind, cI x.number, .list (x.params.map intC), cI x.datum.kind, cI x.datum.number, cS x.datum.text, .list (x.datum.items.map datumC), .list (x.kids.map coreC)]
theorem coreC_eq (x : Core) : coreC x = coreF x := by cases x; simp only [coreC, coreF, coreCs_map]
mutual
def coreEq : Core → Core → Bool
  | ⟨kind1, number1, params1, datum1, kids1⟩, ⟨kind2, number2, params2, datum2, kids2⟩ => decide (kind1 = kind2) && decide (number1 = number2) && decide (params1 = params2) && decide (datum1 = datum2) && coreEqs kids1 kids2
def coreEqs : List Core → List Core → Bool
  | [], [] => true
  | x :: r, y :: t => coreEq x y && coreEqs r t
  | _, _ => false
end
mutual
theorem coreEq_iff : ∀ a b : Core, coreEq a b = true ↔ a = b
  | ⟨kind1, number1, params1, datum1, kids1⟩, ⟨kind2, number2, params2, datum2, kids2⟩ => by rw [coreEq]; simp only [Bool.and_eq_true, decide_eq_true_eq, coreEqs_iff kids1 kids2, Core.mk.injEq, and_assoc]
theorem coreEqs_iff : ∀ a b : List Core, coreEqs a b = true ↔ a = b
  | [], [] => by simp [coreEqs]
  | [], _ :: _ => by simp [coreEqs]
  | _ :: _, [] => by simp [coreEqs]
  | x :: r, y :: t => by rw [coreEqs, Bool.and_eq_true, coreEq_iff x y, coreEqs_iff r t, List.cons.injEq]
end
instance : DecidableEq Core := fun a b => decidable_of_iff _ (coreEq_iff a b)
mutual
theorem Core.ind {P : Core → Prop} (h : ∀ x, (∀ y ∈ x.kids, P y) → P x) : ∀ x, P x
  | ⟨kind', number', params', datum', kids'⟩ => h _ (fun y hy => Core.inds h kids' y hy)
theorem Core.inds {P : Core → Prop} (h : ∀ x, (∀ y ∈ x.kids, P y) → P x) : ∀ (l : List Core), ∀ y ∈ l, P y
  | [], y, hy => by cases hy
  | x :: r, y, hy => (List.mem_cons.1 hy).elim (fun e => e ▸ Core.ind h x) (fun hy => Core.inds h r y hy)
end
theorem coreExt (a b : Core) : a = b ↔ a.kind = b.kind ∧ a.number = b.number ∧ a.params = b.params ∧ a.datum = b.datum ∧ a.kids = b.kids := by cases a; cases b; simp only [Core.mk.injEq]
instance : Row Core coreC coreF 8 := ⟨coreC_eq, fun _ => rfl⟩
abbrev coreA (x : Core) : SV := .agg (vals (coreF x))
abbrev coreR (x : Core) (i : Nat) : SV := .agg [vI x.kind, vI x.number, .ref (i + 0), vI x.datum.kind, vI x.datum.number, vS x.datum.text, .ref (i + 1), .ref (i + 2)]
abbrev coreO (x : Core) : List Ob := [.arr true 1 (x.params.map intC), .arr true 4 (x.datum.items.map datumC), .arr true 8 (x.kids.map coreC)]
mutual
def wC : Core → Nat
  | ⟨_, _, params', datum', kids'⟩ => params'.length + wD datum' + wCs kids'
def wCs : List Core → Nat
  | [] => 0
  | d :: r => 1 + wC d + wCs r
end
theorem wCs_eq : ∀ l, wCs l = l.length + sumBy wC l
  | [] => by simp [wCs, sumBy]
  | d :: r => by rw [wCs, wCs_eq r]; simp only [sumBy, List.length_cons]; omega
theorem wC_eq (x : Core) : wC x = x.params.length + wD x.datum + (x.kids.length + sumBy wC x.kids) := by cases x; simp only [wC, wCs_eq]
structure Syntax where
  kind : Int
  number : Int
  text : ByteArray
  scopes : List Int
  items : List Syntax
instance : Inhabited Syntax := ⟨⟨0, 0, .empty, [], []⟩⟩
mutual
def syntaxC : Syntax → List Cell
  | ⟨kind', number', text', scopes', items'⟩ => [cI kind', cI number', cS text', .list (scopes'.map intC), .list (syntaxCs items')]
def syntaxCs : List Syntax → List (List Cell)
  | [] => []
  | x :: r => syntaxC x :: syntaxCs r
end
theorem syntaxCs_map : ∀ l : List Syntax, syntaxCs l = l.map syntaxC
  | [] => by rw [syntaxCs]; rfl
  | x :: r => by rw [syntaxCs, syntaxCs_map r]; rfl
def syntaxF (x : Syntax) : List Cell := [cI x.kind, cI x.number, cS x.text, .list (x.scopes.map intC), .list (x.items.map syntaxC)]
theorem syntaxC_eq (x : Syntax) : syntaxC x = syntaxF x := by cases x; simp only [syntaxC, syntaxF, syntaxCs_map]
mutual
def syntaxEq : Syntax → Syntax → Bool
  | ⟨kind1, number1, text1, scopes1, items1⟩, ⟨kind2, number2, text2, scopes2, items2⟩ => decide (kind1 = kind2) && decide (number1 = number2) && decide (text1 = text2) && decide (scopes1 = scopes2) && syntaxEqs items1 items2
def syntaxEqs : List Syntax → List Syntax → Bool
  | [], [] => true
  | x :: r, y :: t => syntaxEq x y && syntaxEqs r t
  | _, _ => false
end
mutual
theorem syntaxEq_iff : ∀ a b : Syntax, syntaxEq a b = true ↔ a = b
  | ⟨kind1, number1, text1, scopes1, items1⟩, ⟨kind2, number2, text2, scopes2, items2⟩ => by rw [syntaxEq]; simp only [Bool.and_eq_true, decide_eq_true_eq, syntaxEqs_iff items1 items2, Syntax.mk.injEq, and_assoc]
theorem syntaxEqs_iff : ∀ a b : List Syntax, syntaxEqs a b = true ↔ a = b
  | [], [] => by simp [syntaxEqs]
  | [], _ :: _ => by simp [syntaxEqs]
  | _ :: _, [] => by simp [syntaxEqs]
  | x :: r, y :: t => by rw [syntaxEqs, Bool.and_eq_true, syntaxEq_iff x y, syntaxEqs_iff r t, List.cons.injEq]
end
instance : DecidableEq Syntax := fun a b => decidable_of_iff _ (syntaxEq_iff a b)
mutual
theorem Syntax.ind {P : Syntax → Prop} (h : ∀ x, (∀ y ∈ x.items, P y) → P x) : ∀ x, P x
  | ⟨kind', number', text', scopes', items'⟩ => h _ (fun y hy => Syntax.inds h items' y hy)
theorem Syntax.inds {P : Syntax → Prop} (h : ∀ x, (∀ y ∈ x.items, P y) → P x) : ∀ (l : List Syntax), ∀ y ∈ l, P y
  | [], y, hy => by cases hy
  | x :: r, y, hy => (List.mem_cons.1 hy).elim (fun e => e ▸ Syntax.ind h x) (fun hy => Syntax.inds h r y hy)
end
theorem syntaxExt (a b : Syntax) : a = b ↔ a.kind = b.kind ∧ a.number = b.number ∧ a.text = b.text ∧ a.scopes = b.scopes ∧ a.items = b.items := by cases a; cases b; simp only [Syntax.mk.injEq]
instance : Row Syntax syntaxC syntaxF 5 := ⟨syntaxC_eq, fun _ => rfl⟩
abbrev syntaxA (x : Syntax) : SV := .agg (vals (syntaxF x))
abbrev syntaxR (x : Syntax) (i : Nat) : SV := .agg [vI x.kind, vI x.number, vS x.text, .ref (i + 0), .ref (i + 1)]
abbrev syntaxO (x : Syntax) : List Ob := [.arr true 1 (x.scopes.map intC), .arr true 5 (x.items.map syntaxC)]
mutual
def wY : Syntax → Nat
  | ⟨_, _, text', scopes', items'⟩ => text'.size + scopes'.length + wYs items'
def wYs : List Syntax → Nat
  | [] => 0
  | d :: r => 1 + wY d + wYs r
end
theorem wYs_eq : ∀ l, wYs l = l.length + sumBy wY l
  | [] => by simp [wYs, sumBy]
  | d :: r => by rw [wYs, wYs_eq r]; simp only [sumBy, List.length_cons]; omega
theorem wY_eq (x : Syntax) : wY x = x.text.size + x.scopes.length + (x.items.length + sumBy wY x.items) := by cases x; simp only [wY, wYs_eq]
structure Binding where
  text : ByteArray
  scopes : List Int
  kind : Int
  number : Int
instance : Inhabited Binding := ⟨⟨.empty, [], 0, 0⟩⟩
def bindingF (x : Binding) : List Cell := [cS x.text, .list (x.scopes.map intC), cI x.kind, cI x.number]
def bindingC (x : Binding) : List Cell := bindingF x
theorem bindingC_eq (x : Binding) : bindingC x = bindingF x := rfl
instance : DecidableEq Binding := fun a b => by cases a; cases b; rw [Binding.mk.injEq]; infer_instance
theorem bindingExt (a b : Binding) : a = b ↔ a.text = b.text ∧ a.scopes = b.scopes ∧ a.kind = b.kind ∧ a.number = b.number := by cases a; cases b; simp only [Binding.mk.injEq]
instance : Row Binding bindingC bindingF 4 := ⟨bindingC_eq, fun _ => rfl⟩
abbrev bindingA (x : Binding) : SV := .agg (vals (bindingF x))
abbrev bindingR (x : Binding) (i : Nat) : SV := .agg [vS x.text, .ref (i + 0), vI x.kind, vI x.number]
abbrev bindingO (x : Binding) : List Ob := [.arr true 1 (x.scopes.map intC)]
def wB (x : Binding) : Nat := x.text.size + x.scopes.length
theorem wB_eq (x : Binding) : wB x = x.text.size + x.scopes.length := rfl
structure Rules where
  literals : List Syntax
  patterns : List Syntax
  templates : List Syntax
instance : Inhabited Rules := ⟨⟨[], [], []⟩⟩
def rulesF (x : Rules) : List Cell := [.list (x.literals.map syntaxC), .list (x.patterns.map syntaxC), .list (x.templates.map syntaxC)]
def rulesC (x : Rules) : List Cell := rulesF x
theorem rulesC_eq (x : Rules) : rulesC x = rulesF x := rfl
instance : DecidableEq Rules := fun a b => by cases a; cases b; rw [Rules.mk.injEq]; infer_instance
theorem rulesExt (a b : Rules) : a = b ↔ a.literals = b.literals ∧ a.patterns = b.patterns ∧ a.templates = b.templates := by cases a; cases b; simp only [Rules.mk.injEq]
instance : Row Rules rulesC rulesF 3 := ⟨rulesC_eq, fun _ => rfl⟩
abbrev rulesA (x : Rules) : SV := .agg (vals (rulesF x))
abbrev rulesR (x : Rules) (i : Nat) : SV := .agg [.ref (i + 0), .ref (i + 1), .ref (i + 2)]
abbrev rulesO (x : Rules) : List Ob := [.arr true 5 (x.literals.map syntaxC), .arr true 5 (x.patterns.map syntaxC), .arr true 5 (x.templates.map syntaxC)]
def wR (x : Rules) : Nat := (x.literals.length + sumBy wY x.literals) + (x.patterns.length + sumBy wY x.patterns) + (x.templates.length + sumBy wY x.templates)
theorem wR_eq (x : Rules) : wR x = (x.literals.length + sumBy wY x.literals) + (x.patterns.length + sumBy wY x.patterns) + (x.templates.length + sumBy wY x.templates) := rfl
structure Capture where
  name : Syntax
  depth : Int
  form : Syntax
  each : List Capture
instance : Inhabited Capture := ⟨⟨(default : Syntax), 0, (default : Syntax), []⟩⟩
mutual
def captureC : Capture → List Cell
  | ⟨name', depth', form', each'⟩ => [cI name'.kind, cI name'.number, cS name'.text, .list (name'.scopes.map intC), .list (name'.items.map syntaxC), cI depth', cI form'.kind, cI form'.number, cS form'.text, .list (form'.scopes.map intC), .list (form'.items.map syntaxC), .list (captureCs each')]
def captureCs : List Capture → List (List Cell)
  | [] => []
  | x :: r => captureC x :: captureCs r
end
theorem captureCs_map : ∀ l : List Capture, captureCs l = l.map captureC
  | [] => by rw [captureCs]; rfl
  | x :: r => by rw [captureCs, captureCs_map r]; rfl
def captureF (x : Capture) : List Cell := [cI x.name.kind, cI x.name.number, cS x.name.text, .list (x.name.scopes.map intC), .list (x.name.items.map syntaxC), cI x.depth, cI x.form.kind, cI x.form.number, cS x.form.text, .list (x.form.scopes.map intC), .list (x.form.items.map syntaxC), .list (x.each.map captureC)]
theorem captureC_eq (x : Capture) : captureC x = captureF x := by cases x; simp only [captureC, captureF, captureCs_map]
mutual
def captureEq : Capture → Capture → Bool
  | ⟨name1, depth1, form1, each1⟩, ⟨name2, depth2, form2, each2⟩ => decide (name1 = name2) && decide (depth1 = depth2) && decide (form1 = form2) && captureEqs each1 each2
def captureEqs : List Capture → List Capture → Bool
  | [], [] => true
  | x :: r, y :: t => captureEq x y && captureEqs r t
  | _, _ => false
end
mutual
theorem captureEq_iff : ∀ a b : Capture, captureEq a b = true ↔ a = b
  | ⟨name1, depth1, form1, each1⟩, ⟨name2, depth2, form2, each2⟩ => by rw [captureEq]; simp only [Bool.and_eq_true, decide_eq_true_eq, captureEqs_iff each1 each2, Capture.mk.injEq, and_assoc]
theorem captureEqs_iff : ∀ a b : List Capture, captureEqs a b = true ↔ a = b
  | [], [] => by simp [captureEqs]
  | [], _ :: _ => by simp [captureEqs]
  | _ :: _, [] => by simp [captureEqs]
  | x :: r, y :: t => by rw [captureEqs, Bool.and_eq_true, captureEq_iff x y, captureEqs_iff r t, List.cons.injEq]
end
instance : DecidableEq Capture := fun a b => decidable_of_iff _ (captureEq_iff a b)
mutual
theorem Capture.ind {P : Capture → Prop} (h : ∀ x, (∀ y ∈ x.each, P y) → P x) : ∀ x, P x
  | ⟨name', depth', form', each'⟩ => h _ (fun y hy => Capture.inds h each' y hy)
theorem Capture.inds {P : Capture → Prop} (h : ∀ x, (∀ y ∈ x.each, P y) → P x) : ∀ (l : List Capture), ∀ y ∈ l, P y
  | [], y, hy => by cases hy
  | x :: r, y, hy => (List.mem_cons.1 hy).elim (fun e => e ▸ Capture.ind h x) (fun hy => Capture.inds h r y hy)
end
instance : Row Capture captureC captureF 12 := ⟨captureC_eq, fun _ => rfl⟩
structure Expander where
  bindings : List Binding
  macros : List Rules
  scope : Int
  vari : Int
  steps : Int
instance : Inhabited Expander := ⟨⟨[], [], 0, 0, 0⟩⟩
def expanderF (x : Expander) : List Cell := [.list (x.bindings.map bindingC), .list (x.macros.map rulesC), cI x.scope, cI x.vari, cI x.steps]
def expanderC (x : Expander) : List Cell := expanderF x
theorem expanderC_eq (x : Expander) : expanderC x = expanderF x := rfl
instance : DecidableEq Expander := fun a b => by cases a; cases b; rw [Expander.mk.injEq]; infer_instance
theorem expanderExt (a b : Expander) : a = b ↔ a.bindings = b.bindings ∧ a.macros = b.macros ∧ a.scope = b.scope ∧ a.vari = b.vari ∧ a.steps = b.steps := by cases a; cases b; simp only [Expander.mk.injEq]
instance : Row Expander expanderC expanderF 5 := ⟨expanderC_eq, fun _ => rfl⟩
abbrev expanderA (x : Expander) : SV := .agg (vals (expanderF x))
abbrev expanderR (x : Expander) (i : Nat) : SV := .agg [.ref (i + 0), .ref (i + 1), vI x.scope, vI x.vari, vI x.steps]
abbrev expanderO (x : Expander) : List Ob := [.arr true 4 (x.bindings.map bindingC), .arr true 3 (x.macros.map rulesC)]
def wX (x : Expander) : Nat := (x.bindings.length + sumBy wB x.bindings) + (x.macros.length + sumBy wR x.macros)
theorem wX_eq (x : Expander) : wX x = (x.bindings.length + sumBy wB x.bindings) + (x.macros.length + sumBy wR x.macros) := rfl
structure Module where
  name : ByteArray
  imports : List ByteArray
  exports : List ByteArray
  body : List Datum
instance : Inhabited Module := ⟨⟨.empty, [], [], []⟩⟩
def moduleF (x : Module) : List Cell := [cS x.name, .list (x.imports.map strC), .list (x.exports.map strC), .list (x.body.map datumC)]
def moduleC (x : Module) : List Cell := moduleF x
theorem moduleC_eq (x : Module) : moduleC x = moduleF x := rfl
instance : DecidableEq Module := fun a b => by cases a; cases b; rw [Module.mk.injEq]; infer_instance
instance : Row Module moduleC moduleF 4 := ⟨moduleC_eq, fun _ => rfl⟩
structure Export where
  modul : ByteArray
  text : ByteArray
  kind : Int
  number : Int
instance : Inhabited Export := ⟨⟨.empty, .empty, 0, 0⟩⟩
def exportF (x : Export) : List Cell := [cS x.modul, cS x.text, cI x.kind, cI x.number]
def exportC (x : Export) : List Cell := exportF x
theorem exportC_eq (x : Export) : exportC x = exportF x := rfl
instance : DecidableEq Export := fun a b => by cases a; cases b; rw [Export.mk.injEq]; infer_instance
theorem exportExt (a b : Export) : a = b ↔ a.modul = b.modul ∧ a.text = b.text ∧ a.kind = b.kind ∧ a.number = b.number := by cases a; cases b; simp only [Export.mk.injEq]
instance : Row Export exportC exportF 4 := ⟨exportC_eq, fun _ => rfl⟩
abbrev exportA (x : Export) : SV := .agg (vals (exportF x))
abbrev exportR (x : Export) (i : Nat) : SV := .agg [vS x.modul, vS x.text, vI x.kind, vI x.number]
abbrev exportO (x : Export) : List Ob := []
theorem exportGet {L : List Export} {i : Nat} (h : i < L.length) : (L.map exportC)[i]? = some (exportF (L.getD i default)) := getC h (exportC_eq _)
def wE (x : Export) : Nat := x.modul.size + x.text.size
theorem wE_eq (x : Export) : wE x = x.modul.size + x.text.size := rfl
structure Unit where
  name : ByteArray
  globals : List Int
  body : Core
instance : Inhabited Unit := ⟨⟨.empty, [], (default : Core)⟩⟩
def unitF (x : Unit) : List Cell := [cS x.name, .list (x.globals.map intC), cI x.body.kind, cI x.body.number, .list (x.body.params.map intC), cI x.body.datum.kind, cI x.body.datum.number, cS x.body.datum.text, .list (x.body.datum.items.map datumC), .list (x.body.kids.map coreC)]
def unitC (x : Unit) : List Cell := unitF x
theorem unitC_eq (x : Unit) : unitC x = unitF x := rfl
instance : DecidableEq Unit := fun a b => by cases a; cases b; rw [Unit.mk.injEq]; infer_instance
theorem unitExt (a b : Unit) : a = b ↔ a.name = b.name ∧ a.globals = b.globals ∧ a.body = b.body := by cases a; cases b; simp only [Unit.mk.injEq]
instance : Row Unit unitC unitF 10 := ⟨unitC_eq, fun _ => rfl⟩
abbrev unitA (x : Unit) : SV := .agg (vals (unitF x))
abbrev unitR (x : Unit) (i : Nat) : SV := .agg [vS x.name, .ref (i + 0), vI x.body.kind, vI x.body.number, .ref (i + 1), vI x.body.datum.kind, vI x.body.datum.number, vS x.body.datum.text, .ref (i + 2), .ref (i + 3)]
abbrev unitO (x : Unit) : List Ob := [.arr true 1 (x.globals.map intC), .arr true 1 (x.body.params.map intC), .arr true 4 (x.body.datum.items.map datumC), .arr true 8 (x.body.kids.map coreC)]
theorem unitGet {L : List Unit} {i : Nat} (h : i < L.length) : (L.map unitC)[i]? = some (unitF (L.getD i default)) := getC h (unitC_eq _)
def wU (x : Unit) : Nat := x.name.size + x.globals.length + wC x.body
theorem wU_eq (x : Unit) : wU x = x.name.size + x.globals.length + wC x.body := rfl
structure World where
  expander : Expander
  units : List Unit
  exports : List Export
instance : Inhabited World := ⟨⟨(default : Expander), [], []⟩⟩
def worldF (x : World) : List Cell := [.list (x.expander.bindings.map bindingC), .list (x.expander.macros.map rulesC), cI x.expander.scope, cI x.expander.vari, cI x.expander.steps, .list (x.units.map unitC), .list (x.exports.map exportC)]
def worldC (x : World) : List Cell := worldF x
theorem worldC_eq (x : World) : worldC x = worldF x := rfl
instance : DecidableEq World := fun a b => by cases a; cases b; rw [World.mk.injEq]; infer_instance
theorem worldExt (a b : World) : a = b ↔ a.expander = b.expander ∧ a.units = b.units ∧ a.exports = b.exports := by cases a; cases b; simp only [World.mk.injEq]
instance : Row World worldC worldF 7 := ⟨worldC_eq, fun _ => rfl⟩
abbrev worldA (x : World) : SV := .agg (vals (worldF x))
abbrev worldR (x : World) (i : Nat) : SV := .agg [.ref (i + 0), .ref (i + 1), vI x.expander.scope, vI x.expander.vari, vI x.expander.steps, .ref (i + 2), .ref (i + 3)]
abbrev worldO (x : World) : List Ob := [.arr true 4 (x.expander.bindings.map bindingC), .arr true 3 (x.expander.macros.map rulesC), .arr true 10 (x.units.map unitC), .arr true 4 (x.exports.map exportC)]
def wW (x : World) : Nat := wX x.expander + (x.units.length + sumBy wU x.units) + (x.exports.length + sumBy wE x.exports)
theorem wW_eq (x : World) : wW x = wX x.expander + (x.units.length + sumBy wU x.units) + (x.exports.length + sumBy wE x.exports) := rfl
def sz (w : Nat) (left : Int) : Int := if (w : Int) ≤ left then left - w else -1
end Go.Proofs.YtclpofblehlojaaGreat
end
section
namespace Go.Proofs.YtclpofblehlojaaGreat
open Go Go.Proofs.YtclpofblehlojaaGreat.Ab
set_option linter.unusedVariables false
def maxBy {α : Type} (f : α → Nat) : List α → Nat
  | [] => 0
  | x :: r => max (f x) (maxBy f r)
theorem maxBy_append {α : Type} (f : α → Nat) : ∀ (a b : List α), maxBy f (a ++ b) = max (maxBy f a) (maxBy f b)
  | [], b => by simp [maxBy]
  | x :: a, b => by simp only [List.cons_append, maxBy, maxBy_append f a b]; omega
theorem maxBy_step {α : Type} [Inhabited α] (c : α → Nat) {L : List α} {i : Nat} (h : i < L.length) : maxBy c (L.take (i + 1)) = max (maxBy c (L.take i)) (c (L.getD i default)) := by
  rw [take_get h, maxBy_append]; simp [maxBy]
theorem maxBy_mem {α : Type} (f : α → Nat) : ∀ {L : List α} {x : α}, x ∈ L → f x ≤ maxBy f L
  | y :: r, x, h => by
    rcases List.mem_cons.1 h with rfl | h
    · simp only [maxBy]; omega
    · have := maxBy_mem f h; simp only [maxBy]; omega
theorem maxBy_le {α : Type} (f : α → Nat) {m : Nat} : ∀ {L : List α}, maxBy f L ≤ m ↔ ∀ x ∈ L, f x ≤ m
  | [] => by simp [maxBy]
  | x :: r => by
    have h := maxBy_le f (m := m) (L := r)
    simp only [maxBy, List.forall_mem_cons, ← h]; omega
def scan {α : Type} (f : α → Int → Bool × Int) : List α → Int → Bool × Int
  | [], m => (true, m)
  | x :: r, m => if (f x m).1 then scan f r (f x m).2 else (false, (f x m).2)
theorem scan_append {α : Type} (f : α → Int → Bool × Int) : ∀ (a b : List α) (m : Int), scan f (a ++ b) m = if (scan f a m).1 then scan f b (scan f a m).2 else scan f a m
  | [], b, m => by simp [scan]
  | x :: a, b, m => by
    simp only [List.cons_append, scan]
    by_cases e : (f x m).1 = true
    · simp only [if_pos e]; exact scan_append f a b _
    · simp only [if_neg e]; rfl
theorem scan_step {α : Type} [Inhabited α] (f : α → Int → Bool × Int) {L : List α} {k : Nat} (h : k < L.length) (m : Int) (ht : (scan f (L.take k) m).1 = true) : scan f (L.take (k + 1)) m = f (L.getD k default) (scan f (L.take k) m).2 := by
  rw [take_get h, scan_append, if_pos ht]
  simp only [scan]
  cases e : (f (L.getD k default) (scan f (L.take k) m).2).1 with
  | true => simp only [if_true]; rw [← e]
  | false => simp only [Bool.false_eq_true, if_false]; rw [← e]
theorem scan_stop {α : Type} [Inhabited α] (f : α → Int → Bool × Int) {L : List α} {k : Nat} (h : k < L.length) (m : Int) (ht : (scan f (L.take k) m).1 = true) (hf : (f (L.getD k default) (scan f (L.take k) m).2).1 = false) : scan f L m = f (L.getD k default) (scan f (L.take k) m).2 := by
  have h1 := scan_step f h m ht
  have h2 := scan_append f (L.take (k + 1)) (L.drop (k + 1)) m
  rw [List.take_append_drop, h1, hf] at h2
  rw [h2]; rfl
theorem scan_of {α : Type} (f : α → Int → Bool × Int) (w : α → Nat) (P : α → Prop) (M : Int) : ∀ (L : List α), (∀ x ∈ L, ∀ m, m ≤ M → ((f x m).1 = true ↔ (m + w x ≤ M ∧ P x)) ∧ ((f x m).1 = true → (f x m).2 = m + w x)) →
    ∀ m, m ≤ M → ((scan f L m).1 = true ↔ (m + sumBy w L ≤ M ∧ ∀ x ∈ L, P x)) ∧ ((scan f L m).1 = true → (scan f L m).2 = m + sumBy w L)
  | [], _, m, hm => by simp [scan, sumBy, hm]
  | x :: r, hL, m, hm => by
    have h1 := hL x List.mem_cons_self m hm
    simp only [scan, sumBy, List.forall_mem_cons]
    cases e : (f x m).1 with
    | true =>
      have h2 := h1.1.1 e
      have h3 := h1.2 e
      have h4 := scan_of f w P M r (fun y hy => hL y (List.mem_cons_of_mem _ hy)) (m + w x) h2.1
      simp only [if_true, h3]
      constructor
      · rw [h4.1]; constructor
        · rintro ⟨a, b⟩; exact ⟨by omega, h2.2, b⟩
        · rintro ⟨a, _, b⟩; exact ⟨by omega, b⟩
      · intro ht; rw [h4.2 ht]; omega
    | false =>
      simp only [Bool.false_eq_true, if_false, false_iff]
      refine ⟨?_, False.elim⟩
      rintro ⟨a, b, _⟩
      have := h1.1.2 ⟨by omega, b⟩
      rw [e] at this; exact Bool.noConfusion this
theorem take0 {L : List UInt8} {k : Nat} (h : k < L.length) : L.take (k + 1) = L.take k ++ [L.getD k 0] := by
  rw [List.take_succ_eq_append_getElem h]; simp [h]
theorem flat_take {α β : Type} [Inhabited α] (f : α → List β) {L : List α} {k : Nat} (h : k < L.length) : (L.take (k + 1)).flatMap f = (L.take k).flatMap f ++ f (L.getD k default) := by
  rw [take_get h]; simp
theorem flat_len {α β : Type} (f : α → List β) : ∀ L : List α, (L.flatMap f).length = sumBy (fun x => (f x).length) L
  | [] => rfl
  | x :: r => by simp only [List.flatMap_cons, List.length_append, flat_len f r, sumBy]
theorem flat_takeLe {α β : Type} (f : α → List β) (L : List α) (k : Nat) : ((L.take k).flatMap f).length ≤ (L.flatMap f).length := by
  rw [flat_len, flat_len]; exact sumBy_takeLe _ _ _
theorem maxBy_sum {α : Type} {f g : α → Nat} : ∀ {L : List α}, (∀ x ∈ L, f x ≤ g x) → maxBy f L ≤ sumBy g L
  | [], _ => Nat.le_refl _
  | x :: l, h => by
    have h1 := h x List.mem_cons_self
    have h2 := maxBy_sum (L := l) fun y hy => h y (List.mem_cons_of_mem _ hy)
    simp only [sumBy, maxBy]; omega
def okU (L : List Int) : Bool := decide (L.Nodup ∧ ∀ n ∈ L, 0 ≤ n ∧ n ≤ 99999)
theorem okU_iff {L : List Int} : okU L = true ↔ L.Nodup ∧ ∀ n ∈ L, 0 ≤ n ∧ n ≤ 99999 := decide_eq_true_iff
theorem okU_nil : okU [] = true := rfl
theorem okU_snoc {L : List Int} {n : Int} : okU (L ++ [n]) = true ↔ okU L = true ∧ 0 ≤ n ∧ n ≤ 99999 ∧ n ∉ L := by
  simp only [okU_iff]; rw [List.nodup_append]
  simp only [List.mem_append, List.mem_singleton]
  grind
theorem okU_left {A B : List Int} (h : okU (A ++ B) = true) : okU A = true := by
  rw [okU_iff] at h ⊢
  exact ⟨(List.nodup_append.1 h.1).1, fun n hn => h.2 n (List.mem_append_left _ hn)⟩
theorem okU_take {L : List Int} {k : Nat} (h : okU L = true) : okU (L.take k) = true := by
  rw [← List.take_append_drop k L] at h; exact okU_left h
end Go.Proofs.YtclpofblehlojaaGreat
end
section
namespace Go.Proofs.YtclpofblehlojaaGreat
open Go Go.Proofs.YtclpofblehlojaaGreat.Ab Go.ChangeShapes
set_option linter.unusedVariables false
section
variable {H : Type} {enc : TypeId × Value → H} {P : Program} {w : Go.World} {sp : Nat → Bool} {hd : Bool} {fuel : Nat} {cs : List Value} {x : DataW H × List MemPlace}
abbrev Old (w : Go.World) (b : Nat) : Prop := b < w.heap.size
theorem rd_int {t : TypeId} {k : IntKind} (ht : P.underlying t = some (.int k)) (h : DataW.trod enc P w 0 sp hd fuel t cs = some x) : ∃ n : Int, All2 (Rd w (Old w)) cs [.lit (.int k n)] := by
  obtain ⟨n, rfl, _⟩ := DataW.trod_int ht h
  exact ⟨n, .lit trivial, trivial⟩
theorem rd_string {t : TypeId} (ht : P.underlying t = some .string) (h : DataW.trod enc P w 0 sp hd fuel t cs = some x) : ∃ s : ByteArray, All2 (Rd w (Old w)) cs [.lit (.string s)] := by
  obtain ⟨s, rfl, _, hs⟩ := DataW.trod_string ht h
  exact ⟨s, .lit hs, trivial⟩
theorem rd_slice {α : Type} [Inhabited α] {C : α → List Cell} {t e : TypeId} (ht : P.underlying t = some (.slice e)) (hpos : 0 < P.cellsOf e)
    (hC : ∀ a, (C a).length = P.cellsOf e)
    (hel : ∀ n, n < fuel → ∀ (cs : List Value) (x : DataW H × List MemPlace), DataW.trod enc P w 0 sp hd n e cs = some x → ∃ a, All2 (Rd w (Old w)) cs (C a))
    (h : DataW.trod enc P w 0 sp hd fuel t cs = some x) : ∃ L : List α, All2 (Rd w (Old w)) cs [.list (L.map C)] := by
  rcases DataW.trod_slice ht h with ⟨rfl, _⟩ | ⟨a, len, cap, elems, rest, n, hn, rfl, _, _, hl, hm, hlen, hel2, _, _⟩
  · exact ⟨[], Rd.nil, trivial⟩
  have hone : ∀ i, i < len → ∃ p : List Value × α, w.cells? 0 (a.add (i * P.cellsOf e)) (P.cellsOf e) = some p.1 ∧ All2 (Rd w (Old w)) p.1 (C p.2) := by
    intro i hi
    have hb := hel2 i hi
    rw [List.getElem?_eq_getElem (by omega)] at hb
    obtain ⟨cs', h1, h2⟩ := Option.bind_eq_some_iff.1 hb
    obtain ⟨y, hy⟩ := hel n (by omega) cs' _ h2
    exact ⟨(cs', y), h1, hy⟩
  obtain ⟨f, hf⟩ := Go.Deep.choose_lt hone
  let L : List α := (List.range len).map fun i => (f i).2
  have hL : L.length = len := by simp [L]
  rcases Nat.eq_zero_or_pos len with h0 | h0
  · subst h0
    have : L = [] := by simp [L]
    exact ⟨[], Rd.nil, trivial⟩
  have hcell : ∀ i k, i < len → k < P.cellsOf e → ∃ v c, w.cell? (a.add (i * P.cellsOf e + k)) = some v ∧ (C (f i).2)[k]? = some c ∧ Rd w (Old w) v c := by
    intro i k hi hk
    obtain ⟨h1, h2⟩ := hf i hi
    obtain ⟨_, h3, h4⟩ := Go.World.cells?_some h1
    have h5 := h4 k hk
    rw [Go.Deep.add_add] at h5
    have h6 : k < (f i).1.length := by omega
    rw [List.getElem?_eq_getElem h6] at h5
    have h7 : k < (C (f i).2).length := by rw [hC]; exact hk
    exact ⟨_, _, h5, List.getElem?_eq_getElem h7, h2.get (List.getElem?_eq_getElem h6) (List.getElem?_eq_getElem h7)⟩
  have hspot : a.spot = none := by
    obtain ⟨v, _, h1, _⟩ := hcell 0 0 h0 hpos
    simp only [Nat.zero_mul, Nat.add_zero, Addr.add, if_true] at h1
    unfold Go.World.cell? at h1
    split at h1
    · split at h1
      · cases h1
      · rename_i hs; simpa using hs
    · cases h1
  have haddr : ∀ j, a.add j = ⟨a.block, a.off + j, none⟩ := by
    intro j
    unfold Addr.add
    split
    · rename_i hj; subst hj; cases a; simp_all
    · rfl
  have hblk : a.block < w.heap.size := by
    obtain ⟨v, _, h1, _⟩ := hcell 0 0 h0 hpos
    unfold Go.World.cell? at h1
    rw [haddr] at h1
    simp only at h1
    cases hh : w.heap[a.block]? with
    | none => rw [hh] at h1; cases h1
    | some o => exact (Array.getElem?_eq_some_iff.1 hh).1
  refine ⟨L, ?_, trivial⟩
  have hval : (Value.slice (some a) len cap) = .slice (some ⟨a.block, a.off, none⟩) (L.map C).length cap := by
    rw [List.length_map, hL]; cases a; simp_all
  rw [hval]
  have hszL : ∀ es ∈ L.map C, es.length = P.cellsOf e := by
    intro es hes; obtain ⟨y, _, rfl⟩ := List.mem_map.1 hes; exact hC y
  have hflat : (L.map C).flatten.length = len * P.cellsOf e := by rw [flatten_length hszL, List.length_map, hL]
  refine Rd.slice (sz := P.cellsOf e) (xs := (List.range (len * P.cellsOf e)).map fun j => (w.cell? (a.add j)).getD undef) hblk (by rw [List.length_map, hL]; exact hl) hm hszL (by rw [hflat]; simp) ?_ ?_
  · intro j u hu
    have hj : j < len * P.cellsOf e := by
      have := (List.getElem?_eq_some_iff.1 hu).1; simpa using this
    simp only [List.getElem?_map, List.getElem?_range hj, Option.map_some, Option.some.injEq] at hu
    obtain ⟨v, _, h1, _⟩ := hcell (j / P.cellsOf e) (j % P.cellsOf e) (Nat.div_lt_of_lt_mul (by rw [Nat.mul_comm]; exact hj)) (Nat.mod_lt _ hpos)
    have hdm : j / P.cellsOf e * P.cellsOf e + j % P.cellsOf e = j := by rw [Nat.mul_comm]; exact Nat.div_add_mod j _
    rw [hdm] at h1
    rw [h1] at hu
    rw [← haddr, h1]
    simpa using hu
  · intro j u c hu hc
    have hj : j < len * P.cellsOf e := by
      have := (List.getElem?_eq_some_iff.1 hu).1; simpa using this
    simp only [List.getElem?_map, List.getElem?_range hj, Option.map_some, Option.some.injEq] at hu
    have hi : j / P.cellsOf e < len := Nat.div_lt_of_lt_mul (by rw [Nat.mul_comm]; exact hj)
    obtain ⟨v, c', h1, h2, h3⟩ := hcell (j / P.cellsOf e) (j % P.cellsOf e) hi (Nat.mod_lt _ hpos)
    have hdm : j / P.cellsOf e * P.cellsOf e + j % P.cellsOf e = j := by rw [Nat.mul_comm]; exact Nat.div_add_mod j _
    rw [hdm] at h1
    rw [h1] at hu
    have hLi : (L.map C)[j / P.cellsOf e]? = some (C (f (j / P.cellsOf e)).2) := by simp [L, hi]
    have := flatten_get hszL hLi h2
    rw [hdm, hc] at this
    simp only [Option.some.injEq] at this
    subst this
    simp only [Option.getD_some] at hu
    subst hu
    exact h3
theorem seg {R : Value → Cell → Prop} {cs : List Value} {k n m : Nat} {a b : List Cell} (h1 : All2 R ((cs.drop k).take n) a) (h2 : All2 R (cs.drop m) b) (e : k + n = m) : All2 R (cs.drop k) (a ++ b) := by
  subst e
  have := h1.append h2
  rwa [← List.drop_drop, List.take_append_drop] at this
theorem segEnd {R : Value → Cell → Prop} {cs : List Value} {n : Nat} (h : cs.length = n) : All2 R (cs.drop n) [] := by
  rw [List.drop_of_length_le (by omega)]; trivial
theorem trod_field {fs : Array Field} {xs : List (DataW H × List MemPlace)} {n : Nat} (hlen : xs.length = fs.size)
    (h : ∀ (i : Nat) (f : Field), fs[i]? = some f → DataW.trod enc P w 0 sp hd n f.type ((cs.drop f.offset).take (P.cellsOf f.type)) = xs[i]?) (i : Nat) {f : Field} (hf : fs[i]? = some f) :
    ∃ y, DataW.trod enc P w 0 sp hd n f.type ((cs.drop f.offset).take (P.cellsOf f.type)) = some y := by
  have hi : i < fs.size := (Array.getElem?_eq_some_iff.1 hf).1
  exact ⟨xs[i]'(by omega), by rw [h i f hf]; exact List.getElem?_eq_getElem _⟩
theorem sameAt_kept {W W' : Go.World} (hk : W.kept W') {p : MemPlace} (hp : p.block < W.heap.size) : W.sameAt W' p := by
  cases p with
  | cell b off => exact cell_of_heap (hk.2.2 b hp)
  | map b => exact hk.2.2 b hp
theorem trodAll_kept {W W' : Go.World} (hl : laidOutB P = true) (hmr : mapsRowed P = true) (hsz : ((List.range P.types.size).all fun t => match P.underlying t with | some (.slice e) => decide (0 < P.cellsOf e) | _ => true) = true)
    (hk : W.kept W') {sp : Nat → Bool} : ∀ {ts : List TypeId} {vs : List Value} {ds : List (DataW H)} {ps : List MemPlace}, (∀ t ∈ ts, t < P.types.size) → DataW.TrodAll enc P W 0 (fun _ => true) true ts vs ds ps → (∀ p ∈ ps, sp p.block = true) →
      DataW.TrodAll enc P W' 0 sp true ts vs ds ps
  | [], [], [], ps, _, h, _ => h
  | t :: ts, v :: vs, d :: ds, ps, ht, ⟨p, q, ⟨fuel, hf⟩, h2, e⟩, hs => by
    subst e
    have hlt := DataW.trod_lt _ _ _ _ hf
    refine ⟨p, q, ⟨fuel, DataW.trod_stays (kids_rows hl hmr) (fun {t e} ht hu => ?_) (fun hh => by cases hh) (ht t List.mem_cons_self) hf (fun y hy => sameAt_kept hk (hlt y hy)) (fun y hy => hs y (List.mem_append_left _ hy))⟩,
      trodAll_kept hl hmr hsz hk (fun t ht' => ht t (List.mem_cons_of_mem _ ht')) h2 (fun y hy => hs y (List.mem_append_right _ hy)), rfl⟩
    have := List.all_eq_true.1 hsz t (List.mem_range.2 ht)
    rw [hu] at this
    simpa using this
  | [], _ :: _, _, _, _, h, _ => h.elim
  | [], [], _ :: _, _, _, h, _ => h.elim
  | _ :: _, [], _, _, _, h, _ => h.elim
  | _ :: _, _ :: _, [], _, _, h, _ => h.elim
theorem agg_rel {W : Go.World} {v : Value} {cs : List Cell} (h : ∃ arr, v = .agg arr) (hc : All2 (Rd W (Old W)) v.cells.toList cs) : SVRel W (allI W) (obOf []) (.agg (vals cs)) v := by
  obtain ⟨arr, rfl⟩ := h
  refine ⟨arr, rfl, ?_⟩
  have : (Value.agg arr).cells = arr := rfl
  rw [this] at hc
  exact All2.map_left _ (hc.flip.imp fun c u hr => ⟨hr, hr.one⟩) |>.imp fun _ _ h => h
end
end Go.Proofs.YtclpofblehlojaaGreat
end
section
namespace Go.Proofs.YtclpofblehlojaaGreat
open Go Go.Proofs.YtclpofblehlojaaGreat.Ab Go.ChangeShapes
set_option linter.unusedVariables false
set_option maxRecDepth 100000
section
variable {H : Type} {enc : TypeId × Value → H} {w : Go.World} {sp : Nat → Bool} {hd : Bool}
theorem rd_datum : ∀ (fuel : Nat) (cs : List Value) (x : DataW H × List MemPlace), DataW.trod enc Tryz.prog w 0 sp hd fuel 158 cs = some x → ∃ a : Datum, All2 (Rd w (Old w)) cs (datumF a) := by
  intro fuel
  induction fuel using Nat.strongRecOn with | _ fuel ih =>
  intro cs x h
  obtain ⟨xs, n, rfl, _, hlen, hxs, hf⟩ := DataW.trod_struct Tryz.underlying158 h
  have hlen : cs.length = 4 := hlen.trans (by kernel_rfl)
  obtain ⟨y0, h0⟩ := trod_field hxs hf 0 (by rfl)
  obtain ⟨a0, r0⟩ := rd_int Tryz.underlying3 h0
  obtain ⟨y1, h1⟩ := trod_field hxs hf 1 (by rfl)
  obtain ⟨a1, r1⟩ := rd_int Tryz.underlying3 h1
  obtain ⟨y2, h2⟩ := trod_field hxs hf 2 (by rfl)
  obtain ⟨a2, r2⟩ := rd_string Tryz.underlying9 h2
  obtain ⟨y3, h3⟩ := trod_field hxs hf 3 (by rfl)
  obtain ⟨a3, r3⟩ := rd_slice (C := datumC) Tryz.underlying156 (by rw [show Tryz.prog.cellsOf 158 = 4 from by kernel_rfl]; decide) (fun a => by rw [datumC_eq]; kernel_rfl) (fun m hm cs x h => by obtain ⟨a, ha⟩ := ih m (by omega) cs x h; exact ⟨a, by rw [datumC_eq]; exact ha⟩) h3
  exact ⟨⟨a0, a1, a2, a3⟩, seg r0 (seg r1 (seg r2 (seg r3 (segEnd hlen) (by kernel_rfl)) (by kernel_rfl)) (by kernel_rfl)) (by kernel_rfl)⟩
theorem rd_core : ∀ (fuel : Nat) (cs : List Value) (x : DataW H × List MemPlace), DataW.trod enc Tryz.prog w 0 sp hd fuel 161 cs = some x → ∃ a : Core, All2 (Rd w (Old w)) cs (coreF a) := by
  intro fuel
  induction fuel using Nat.strongRecOn with | _ fuel ih =>
  intro cs x h
  obtain ⟨xs, n, rfl, _, hlen, hxs, hf⟩ := DataW.trod_struct Tryz.underlying161 h
  have hlen : cs.length = 8 := hlen.trans (by kernel_rfl)
  obtain ⟨y0, h0⟩ := trod_field hxs hf 0 (by rfl)
  obtain ⟨a0, r0⟩ := rd_int Tryz.underlying3 h0
  obtain ⟨y1, h1⟩ := trod_field hxs hf 1 (by rfl)
  obtain ⟨a1, r1⟩ := rd_int Tryz.underlying3 h1
  obtain ⟨y2, h2⟩ := trod_field hxs hf 2 (by rfl)
  obtain ⟨a2, r2⟩ := rd_slice (C := intC) Tryz.underlying25 (by rw [show Tryz.prog.cellsOf 3 = 1 from by kernel_rfl]; decide) (fun a => by kernel_rfl) (fun m hm cs x h => rd_int Tryz.underlying3 h) h2
  obtain ⟨y3, h3⟩ := trod_field hxs hf 3 (by rfl)
  obtain ⟨a3, r3⟩ := rd_datum _ _ _ h3
  obtain ⟨y4, h4⟩ := trod_field hxs hf 4 (by rfl)
  obtain ⟨a4, r4⟩ := rd_slice (C := coreC) Tryz.underlying159 (by rw [show Tryz.prog.cellsOf 161 = 8 from by kernel_rfl]; decide) (fun a => by rw [coreC_eq]; kernel_rfl) (fun m hm cs x h => by obtain ⟨a, ha⟩ := ih m (by omega) cs x h; exact ⟨a, by rw [coreC_eq]; exact ha⟩) h4
  exact ⟨⟨a0, a1, a2, a3, a4⟩, seg r0 (seg r1 (seg r2 (seg r3 (seg r4 (segEnd hlen) (by kernel_rfl)) (by kernel_rfl)) (by kernel_rfl)) (by kernel_rfl)) (by kernel_rfl)⟩
theorem rd_syntax : ∀ (fuel : Nat) (cs : List Value) (x : DataW H × List MemPlace), DataW.trod enc Tryz.prog w 0 sp hd fuel 247 cs = some x → ∃ a : Syntax, All2 (Rd w (Old w)) cs (syntaxF a) := by
  intro fuel
  induction fuel using Nat.strongRecOn with | _ fuel ih =>
  intro cs x h
  obtain ⟨xs, n, rfl, _, hlen, hxs, hf⟩ := DataW.trod_struct Tryz.underlying247 h
  have hlen : cs.length = 5 := hlen.trans (by kernel_rfl)
  obtain ⟨y0, h0⟩ := trod_field hxs hf 0 (by rfl)
  obtain ⟨a0, r0⟩ := rd_int Tryz.underlying3 h0
  obtain ⟨y1, h1⟩ := trod_field hxs hf 1 (by rfl)
  obtain ⟨a1, r1⟩ := rd_int Tryz.underlying3 h1
  obtain ⟨y2, h2⟩ := trod_field hxs hf 2 (by rfl)
  obtain ⟨a2, r2⟩ := rd_string Tryz.underlying9 h2
  obtain ⟨y3, h3⟩ := trod_field hxs hf 3 (by rfl)
  obtain ⟨a3, r3⟩ := rd_slice (C := intC) Tryz.underlying25 (by rw [show Tryz.prog.cellsOf 3 = 1 from by kernel_rfl]; decide) (fun a => by kernel_rfl) (fun m hm cs x h => rd_int Tryz.underlying3 h) h3
  obtain ⟨y4, h4⟩ := trod_field hxs hf 4 (by rfl)
  obtain ⟨a4, r4⟩ := rd_slice (C := syntaxC) Tryz.underlying204 (by rw [show Tryz.prog.cellsOf 247 = 5 from by kernel_rfl]; decide) (fun a => by rw [syntaxC_eq]; kernel_rfl) (fun m hm cs x h => by obtain ⟨a, ha⟩ := ih m (by omega) cs x h; exact ⟨a, by rw [syntaxC_eq]; exact ha⟩) h4
  exact ⟨⟨a0, a1, a2, a3, a4⟩, seg r0 (seg r1 (seg r2 (seg r3 (seg r4 (segEnd hlen) (by kernel_rfl)) (by kernel_rfl)) (by kernel_rfl)) (by kernel_rfl)) (by kernel_rfl)⟩
theorem rd_binding : ∀ (fuel : Nat) (cs : List Value) (x : DataW H × List MemPlace), DataW.trod enc Tryz.prog w 0 sp hd fuel 202 cs = some x → ∃ a : Binding, All2 (Rd w (Old w)) cs (bindingF a) := by
  intro fuel
  induction fuel using Nat.strongRecOn with | _ fuel ih =>
  intro cs x h
  obtain ⟨xs, n, rfl, _, hlen, hxs, hf⟩ := DataW.trod_struct Tryz.underlying202 h
  have hlen : cs.length = 4 := hlen.trans (by kernel_rfl)
  obtain ⟨y0, h0⟩ := trod_field hxs hf 0 (by rfl)
  obtain ⟨a0, r0⟩ := rd_string Tryz.underlying9 h0
  obtain ⟨y1, h1⟩ := trod_field hxs hf 1 (by rfl)
  obtain ⟨a1, r1⟩ := rd_slice (C := intC) Tryz.underlying25 (by rw [show Tryz.prog.cellsOf 3 = 1 from by kernel_rfl]; decide) (fun a => by kernel_rfl) (fun m hm cs x h => rd_int Tryz.underlying3 h) h1
  obtain ⟨y2, h2⟩ := trod_field hxs hf 2 (by rfl)
  obtain ⟨a2, r2⟩ := rd_int Tryz.underlying3 h2
  obtain ⟨y3, h3⟩ := trod_field hxs hf 3 (by rfl)
  obtain ⟨a3, r3⟩ := rd_int Tryz.underlying3 h3
  exact ⟨⟨a0, a1, a2, a3⟩, seg r0 (seg r1 (seg r2 (seg r3 (segEnd hlen) (by kernel_rfl)) (by kernel_rfl)) (by kernel_rfl)) (by kernel_rfl)⟩
theorem rd_rules : ∀ (fuel : Nat) (cs : List Value) (x : DataW H × List MemPlace), DataW.trod enc Tryz.prog w 0 sp hd fuel 206 cs = some x → ∃ a : Rules, All2 (Rd w (Old w)) cs (rulesF a) := by
  intro fuel
  induction fuel using Nat.strongRecOn with | _ fuel ih =>
  intro cs x h
  obtain ⟨xs, n, rfl, _, hlen, hxs, hf⟩ := DataW.trod_struct Tryz.underlying206 h
  have hlen : cs.length = 3 := hlen.trans (by kernel_rfl)
  obtain ⟨y0, h0⟩ := trod_field hxs hf 0 (by rfl)
  obtain ⟨a0, r0⟩ := rd_slice (C := syntaxC) Tryz.underlying204 (by rw [show Tryz.prog.cellsOf 247 = 5 from by kernel_rfl]; decide) (fun a => by rw [syntaxC_eq]; kernel_rfl) (fun m hm cs x h => by obtain ⟨a, ha⟩ := rd_syntax m cs x h; exact ⟨a, by rw [syntaxC_eq]; exact ha⟩) h0
  obtain ⟨y1, h1⟩ := trod_field hxs hf 1 (by rfl)
  obtain ⟨a1, r1⟩ := rd_slice (C := syntaxC) Tryz.underlying204 (by rw [show Tryz.prog.cellsOf 247 = 5 from by kernel_rfl]; decide) (fun a => by rw [syntaxC_eq]; kernel_rfl) (fun m hm cs x h => by obtain ⟨a, ha⟩ := rd_syntax m cs x h; exact ⟨a, by rw [syntaxC_eq]; exact ha⟩) h1
  obtain ⟨y2, h2⟩ := trod_field hxs hf 2 (by rfl)
  obtain ⟨a2, r2⟩ := rd_slice (C := syntaxC) Tryz.underlying204 (by rw [show Tryz.prog.cellsOf 247 = 5 from by kernel_rfl]; decide) (fun a => by rw [syntaxC_eq]; kernel_rfl) (fun m hm cs x h => by obtain ⟨a, ha⟩ := rd_syntax m cs x h; exact ⟨a, by rw [syntaxC_eq]; exact ha⟩) h2
  exact ⟨⟨a0, a1, a2⟩, seg r0 (seg r1 (seg r2 (segEnd hlen) (by kernel_rfl)) (by kernel_rfl)) (by kernel_rfl)⟩
theorem rd_expander : ∀ (fuel : Nat) (cs : List Value) (x : DataW H × List MemPlace), DataW.trod enc Tryz.prog w 0 sp hd fuel 49 cs = some x → ∃ a : Expander, All2 (Rd w (Old w)) cs (expanderF a) := by
  intro fuel
  induction fuel using Nat.strongRecOn with | _ fuel ih =>
  intro cs x h
  obtain ⟨xs, n, rfl, _, hlen, hxs, hf⟩ := DataW.trod_struct Tryz.underlying49 h
  have hlen : cs.length = 5 := hlen.trans (by kernel_rfl)
  obtain ⟨y0, h0⟩ := trod_field hxs hf 0 (by rfl)
  obtain ⟨a0, r0⟩ := rd_slice (C := bindingC) Tryz.underlying46 (by rw [show Tryz.prog.cellsOf 202 = 4 from by kernel_rfl]; decide) (fun a => by rw [bindingC_eq]; kernel_rfl) (fun m hm cs x h => by obtain ⟨a, ha⟩ := rd_binding m cs x h; exact ⟨a, by rw [bindingC_eq]; exact ha⟩) h0
  obtain ⟨y1, h1⟩ := trod_field hxs hf 1 (by rfl)
  obtain ⟨a1, r1⟩ := rd_slice (C := rulesC) Tryz.underlying47 (by rw [show Tryz.prog.cellsOf 206 = 3 from by kernel_rfl]; decide) (fun a => by rw [rulesC_eq]; kernel_rfl) (fun m hm cs x h => by obtain ⟨a, ha⟩ := rd_rules m cs x h; exact ⟨a, by rw [rulesC_eq]; exact ha⟩) h1
  obtain ⟨y2, h2⟩ := trod_field hxs hf 2 (by rfl)
  obtain ⟨a2, r2⟩ := rd_int Tryz.underlying3 h2
  obtain ⟨y3, h3⟩ := trod_field hxs hf 3 (by rfl)
  obtain ⟨a3, r3⟩ := rd_int Tryz.underlying3 h3
  obtain ⟨y4, h4⟩ := trod_field hxs hf 4 (by rfl)
  obtain ⟨a4, r4⟩ := rd_int Tryz.underlying3 h4
  exact ⟨⟨a0, a1, a2, a3, a4⟩, seg r0 (seg r1 (seg r2 (seg r3 (seg r4 (segEnd hlen) (by kernel_rfl)) (by kernel_rfl)) (by kernel_rfl)) (by kernel_rfl)) (by kernel_rfl)⟩
theorem rd_export : ∀ (fuel : Nat) (cs : List Value) (x : DataW H × List MemPlace), DataW.trod enc Tryz.prog w 0 sp hd fuel 165 cs = some x → ∃ a : Export, All2 (Rd w (Old w)) cs (exportF a) := by
  intro fuel
  induction fuel using Nat.strongRecOn with | _ fuel ih =>
  intro cs x h
  obtain ⟨xs, n, rfl, _, hlen, hxs, hf⟩ := DataW.trod_struct Tryz.underlying165 h
  have hlen : cs.length = 4 := hlen.trans (by kernel_rfl)
  obtain ⟨y0, h0⟩ := trod_field hxs hf 0 (by rfl)
  obtain ⟨a0, r0⟩ := rd_string Tryz.underlying9 h0
  obtain ⟨y1, h1⟩ := trod_field hxs hf 1 (by rfl)
  obtain ⟨a1, r1⟩ := rd_string Tryz.underlying9 h1
  obtain ⟨y2, h2⟩ := trod_field hxs hf 2 (by rfl)
  obtain ⟨a2, r2⟩ := rd_int Tryz.underlying3 h2
  obtain ⟨y3, h3⟩ := trod_field hxs hf 3 (by rfl)
  obtain ⟨a3, r3⟩ := rd_int Tryz.underlying3 h3
  exact ⟨⟨a0, a1, a2, a3⟩, seg r0 (seg r1 (seg r2 (seg r3 (segEnd hlen) (by kernel_rfl)) (by kernel_rfl)) (by kernel_rfl)) (by kernel_rfl)⟩
theorem rd_unit : ∀ (fuel : Nat) (cs : List Value) (x : DataW H × List MemPlace), DataW.trod enc Tryz.prog w 0 sp hd fuel 163 cs = some x → ∃ a : Unit, All2 (Rd w (Old w)) cs (unitF a) := by
  intro fuel
  induction fuel using Nat.strongRecOn with | _ fuel ih =>
  intro cs x h
  obtain ⟨xs, n, rfl, _, hlen, hxs, hf⟩ := DataW.trod_struct Tryz.underlying163 h
  have hlen : cs.length = 10 := hlen.trans (by kernel_rfl)
  obtain ⟨y0, h0⟩ := trod_field hxs hf 0 (by rfl)
  obtain ⟨a0, r0⟩ := rd_string Tryz.underlying9 h0
  obtain ⟨y1, h1⟩ := trod_field hxs hf 1 (by rfl)
  obtain ⟨a1, r1⟩ := rd_slice (C := intC) Tryz.underlying25 (by rw [show Tryz.prog.cellsOf 3 = 1 from by kernel_rfl]; decide) (fun a => by kernel_rfl) (fun m hm cs x h => rd_int Tryz.underlying3 h) h1
  obtain ⟨y2, h2⟩ := trod_field hxs hf 2 (by rfl)
  obtain ⟨a2, r2⟩ := rd_core _ _ _ h2
  exact ⟨⟨a0, a1, a2⟩, seg r0 (seg r1 (seg r2 (segEnd hlen) (by kernel_rfl)) (by kernel_rfl)) (by kernel_rfl)⟩
theorem rd_world : ∀ (fuel : Nat) (cs : List Value) (x : DataW H × List MemPlace), DataW.trod enc Tryz.prog w 0 sp hd fuel 53 cs = some x → ∃ a : World, All2 (Rd w (Old w)) cs (worldF a) := by
  intro fuel
  induction fuel using Nat.strongRecOn with | _ fuel ih =>
  intro cs x h
  obtain ⟨xs, n, rfl, _, hlen, hxs, hf⟩ := DataW.trod_struct Tryz.underlying53 h
  have hlen : cs.length = 7 := hlen.trans (by kernel_rfl)
  obtain ⟨y0, h0⟩ := trod_field hxs hf 0 (by rfl)
  obtain ⟨a0, r0⟩ := rd_expander _ _ _ h0
  obtain ⟨y1, h1⟩ := trod_field hxs hf 1 (by rfl)
  obtain ⟨a1, r1⟩ := rd_slice (C := unitC) Tryz.underlying50 (by rw [show Tryz.prog.cellsOf 163 = 10 from by kernel_rfl]; decide) (fun a => by rw [unitC_eq]; kernel_rfl) (fun m hm cs x h => by obtain ⟨a, ha⟩ := rd_unit m cs x h; exact ⟨a, by rw [unitC_eq]; exact ha⟩) h1
  obtain ⟨y2, h2⟩ := trod_field hxs hf 2 (by rfl)
  obtain ⟨a2, r2⟩ := rd_slice (C := exportC) Tryz.underlying51 (by rw [show Tryz.prog.cellsOf 165 = 4 from by kernel_rfl]; decide) (fun a => by rw [exportC_eq]; kernel_rfl) (fun m hm cs x h => by obtain ⟨a, ha⟩ := rd_export m cs x h; exact ⟨a, by rw [exportC_eq]; exact ha⟩) h2
  exact ⟨⟨a0, a1, a2⟩, seg r0 (seg r1 (seg r2 (segEnd hlen) (by kernel_rfl)) (by kernel_rfl)) (by kernel_rfl)⟩
end
end Go.Proofs.YtclpofblehlojaaGreat
end
section
namespace Go.Proofs.YtclpofblehlojaaGreat
open Go
set_option maxRecDepth 100000
def headSigns : List Char := (List.map Char.ofNat [104, 97, 114, 110, 101, 115, 115, 32, 98, 99, 101, 52, 102, 99, 53, 100, 97, 55, 49, 48, 98, 102, 48, 57, 49, 99, 51, 100, 101, 53, 102, 102, 52, 57, 51, 99, 98, 49, 57, 99, 51, 102, 50, 56, 51, 52, 48, 100, 51, 102, 51, 50, 54, 51, 98, 100, 98, 57, 100, 102, 56, 57, 50, 56, 55, 53, 55, 101, 52, 51, 54, 99, 32, 99, 117, 116, 32, 97, 116, 32, 108, 111, 111, 112, 46, 101, 120, 97, 109, 112, 108, 101, 47, 103, 48, 51, 50, 50, 48, 47, 108, 97, 119, 115, 46, 70, 110, 82, 101, 98, 117, 105, 108, 116, 32, 108, 111, 111, 112, 46, 101, 120, 97, 109, 112, 108, 101, 47, 103, 48, 51, 50, 50, 48, 47, 108, 97, 119, 115, 46, 70, 110, 73, 110, 103, 114, 101, 100, 105, 101, 110, 116, 115, 32, 108, 111, 111, 112, 46, 101, 120, 97, 109, 112, 108, 101, 47, 103, 48, 51, 50, 50, 48, 47, 108, 97, 119, 115, 46, 70, 110, 69, 120, 97, 99, 116, 73, 115, 87, 111, 114, 108, 100])
def headWords : List (List Char) := [(List.map Char.ofNat [104, 97, 114, 110, 101, 115, 115]),
  (List.map Char.ofNat [98, 99, 101, 52, 102, 99, 53, 100, 97, 55, 49, 48, 98, 102, 48, 57, 49, 99, 51, 100, 101, 53, 102, 102, 52, 57, 51, 99, 98, 49, 57, 99, 51, 102, 50, 56, 51, 52, 48, 100, 51, 102, 51, 50, 54, 51, 98, 100, 98, 57, 100, 102, 56, 57, 50, 56, 55, 53, 55, 101, 52, 51, 54, 99]),
  (List.map Char.ofNat [99, 117, 116]),
  (List.map Char.ofNat [97, 116]),
  (List.map Char.ofNat [108, 111, 111, 112, 46, 101, 120, 97, 109, 112, 108, 101, 47, 103, 48, 51, 50, 50, 48, 47, 108, 97, 119, 115, 46, 70, 110, 82, 101, 98, 117, 105, 108, 116]),
  (List.map Char.ofNat [108, 111, 111, 112, 46, 101, 120, 97, 109, 112, 108, 101, 47, 103, 48, 51, 50, 50, 48, 47, 108, 97, 119, 115, 46, 70, 110, 73, 110, 103, 114, 101, 100, 105, 101, 110, 116, 115]),
  (List.map Char.ofNat [108, 111, 111, 112, 46, 101, 120, 97, 109, 112, 108, 101, 47, 103, 48, 51, 50, 50, 48, 47, 108, 97, 119, 115, 46, 70, 110, 69, 120, 97, 99, 116, 73, 115, 87, 111, 114, 108, 100])]
theorem head_text : Tryz.pinned.checked.prog.initOrder = String.ofList headSigns := by kernel_rfl
theorem head_words : wordsSigns headSigns = headWords := by kernel_rfl
theorem words : wordsSigns Tryz.pinned.checked.prog.initOrder.toList = headWords := by rw [head_text, String.toList_ofList]; exact head_words
theorem strip_head : stripLifts liftWords (behindMainWord headWords) = ([], behindMainWord headWords) := by kernel_rfl
theorem enters_of (P : Program) (h : wordsSigns P.initOrder.toList = headWords) (h1 : P.laysLater = false) (h2 : P.bearsReflect = false) (h3 : P.doorFits [] = true) : P.mayEnter = true := by
  have e : behindMainWord headWords = (List.map Char.ofNat [99, 117, 116]) :: (behindMainWord headWords).tail := by kernel_rfl
  have t := strip_head
  unfold Program.mayEnter; rw [h]
  rw [e] at t ⊢
  simp only [t, h1, h2, h3]
  decide +kernel
theorem makes_of (P : Program) (h : wordsSigns P.initOrder.toList = headWords) : P.make = some .cut := by
  unfold Program.make; rw [h]; kernel_rfl
theorem lifts_of (P : Program) (h : wordsSigns P.initOrder.toList = headWords) : P.liftsFinal = false := by
  unfold Program.liftsFinal Program.headLifts; rw [h]; kernel_rfl
theorem and_i {a b : Bool} (h : a = true) (g : b = true) : (a && b) = true := by rw [h, g]; rfl
theorem enters : Tryz.pinned.checked.prog.mayEnter = true := enters_of _ words (by kernel_rfl) (by kernel_rfl) (by kernel_rfl)
theorem makes : Tryz.pinned.checked.prog.make = some .cut := makes_of _ words
theorem lifts : Tryz.pinned.checked.prog.liftsFinal = false := lifts_of _ words
end Go.Proofs.YtclpofblehlojaaGreat
end
