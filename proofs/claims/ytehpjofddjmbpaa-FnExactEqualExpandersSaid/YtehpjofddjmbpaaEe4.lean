/- Part 4 of the proof: The law FnExactEqualExpanders holds: EqualExpanders answers as the reference's does. No condition. -/
import Derived.Test.YtehpjofddjmbpaaEe3
import Derived.Test.YtehpjofddjmbpaaRows
import Derived.ChangeStays
import Derived.ChangeOld
import Derived.Deep.Slices
section
namespace Go.Proofs.Ytehpjofddjmbpaa
open Go Go.Proofs.Ytehpjofddjmbpaa.Ab
set_option linter.unusedVariables false
theorem wide : Try.prog.follows .mixedOrders = true := by kernel_rfl
theorem drop_get {α : Type} [Inhabited α] {L : List α} {k : Nat} (h : k < L.length) : L.drop k = L.getD k default :: L.drop (k + 1) := by
  rw [List.drop_eq_getElem_cons h]; simp [h]
theorem take_get {α : Type} [Inhabited α] {L : List α} {k : Nat} (h : k < L.length) : L.take (k + 1) = L.take k ++ [L.getD k default] := by
  rw [List.take_succ_eq_append_getElem h]; simp [h]
theorem getD_mem' {α : Type} [Inhabited α] {L : List α} {k : Nat} (h : k < L.length) : L.getD k default ∈ L := by simp [h]
theorem size_list (s : ByteArray) : s.data.toList.length = s.size := rfl
theorem rng64 {n : Int} : rng .i64 n ↔ -9223372036854775808 ≤ n ∧ n ≤ 9223372036854775807 := rng_i64
theorem obsEq_iff (a b : List Ob) : ObsEq a b ↔ a = b := Iff.rfl
theorem obsN : ObsEq [] [] := rfl
theorem obsC {a b : Ob} {l m : List Ob} (h1 : a = b) (h2 : ObsEq l m) : ObsEq (a :: l) (b :: m) := by
  subst h1; exact congrArg (List.cons a) h2
theorem obA {o : Bool} {z : Nat} {x y : List (List Cell)} (h : x = y) : Ob.arr o z x = Ob.arr o z y := by rw [h]
theorem obM {z z' : Bool} {k : MK} {f f' : Value → Option Cell} (h1 : z = z') (h2 : f = f') : Ob.map z k f = Ob.map z' k f' := by rw [h1, h2]
theorem svA {l m : List AC} (h : l = m) : AV.sv (SV.agg l) = AV.sv (SV.agg m) := by rw [h]
theorem lcA {a b : AC} {l m : List AC} (h1 : a = b) (h2 : l = m) : a :: l = b :: m := by rw [h1, h2]
theorem tupA {l m : List SV} (h : l = m) : AV.tup l = AV.tup m := by rw [h]
theorem lcS {a b : SV} {l m : List SV} (h1 : a = b) (h2 : l = m) : a :: l = b :: m := by rw [h1, h2]
theorem liC {a b : Int} (h : a = b) : li a = li b := by rw [h]
theorem lbC {a b : Bool} (h : a = b) : lb a = lb b := by rw [h]
theorem lsC {a b : ByteArray} (h : a = b) : ls a = ls b := by rw [h]
theorem vIc {a b : Int} (h : a = b) : vI a = vI b := by rw [h]
theorem vBc {a b : Bool} (h : a = b) : vB a = vB b := by rw [h]
theorem vSc {a b : ByteArray} (h : a = b) : vS a = vS b := by rw [h]
theorem vLc {a b : List (List Cell)} (h : a = b) : vL a = vL b := by rw [h]
theorem svC {a b : SV} (h : a = b) : AV.sv a = AV.sv b := by rw [h]
theorem obB {l m : List AC} (h : l = m) : Ob.box l = Ob.box m := by rw [h]
theorem mapC {α : Type} {f : α → List Cell} {a b : List α} (h : a = b) : a.map f = b.map f := by rw [h]
theorem snocI (S : List Int) (n : Int) : S.map intC ++ [[cI n]] = (S ++ [n]).map intC := by simp [intC]
theorem snocS (S : List ByteArray) (n : ByteArray) : S.map strC ++ [[cS n]] = (S ++ [n]).map strC := by simp [strC]
theorem flatI {L : List Int} : ∀ e ∈ L.map intC, ∀ c ∈ e, ∃ v, c = Cell.lit v := by
  intro e he c hc
  obtain ⟨x, _, rfl⟩ := List.mem_map.1 he
  rw [List.mem_singleton.1 hc]; exact ⟨_, rfl⟩
theorem flatS {L : List ByteArray} : ∀ e ∈ L.map strC, ∀ c ∈ e, ∃ v, c = Cell.lit v := by
  intro e he c hc
  obtain ⟨x, _, rfl⟩ := List.mem_map.1 he
  rw [List.mem_singleton.1 hc]; exact ⟨_, rfl⟩
theorem getC {α : Type} [Inhabited α] {f : α → List Cell} {L : List α} {i : Nat} {x : List Cell} (h : i < L.length) (hx : f (L.getD i default) = x) : (L.map f)[i]? = some x := by
  subst hx; simp [h]
theorem take_eq {α : Type} [Inhabited α] {A B : List α} {k : Nat} (h : k < A.length) (hl : A.length = B.length) : A.take (k + 1) = B.take (k + 1) ↔ A.take k = B.take k ∧ A.getD k default = B.getD k default := by
  rw [take_get h, take_get (by omega : k < B.length)]
  constructor
  · intro e
    have := List.append_inj e (by simp; omega)
    exact ⟨this.1, by simpa using this.2⟩
  · rintro ⟨e1, e2⟩; rw [e1, e2]
theorem bytes_ext (a b : ByteArray) : a.data.toList = b.data.toList ↔ a = b := by
  constructor
  · intro h; cases a; cases b; simp at h; subst h; rfl
  · intro h; rw [h]
theorem lb_inj (a b : Bool) : AV.sv (lb a) = AV.sv (lb b) ↔ a = b := by simp [lb, vB, cB]
theorem li_inj (a b : Int) : AV.sv (li a) = AV.sv (li b) ↔ a = b := by simp [li, vI, cI]
theorem ls_inj (a b : ByteArray) : AV.sv (ls a) = AV.sv (ls b) ↔ a = b := by simp [ls, vS, cS]
def fillTo {α : Type} [Inhabited α] (L : List α) (k : Nat) : List α := L.take k ++ List.replicate (L.length - k) default
theorem fillTo_len {α : Type} [Inhabited α] (L : List α) (k : Nat) : (fillTo L k).length = L.length := by simp [fillTo]; omega
theorem fillTo_zero {α : Type} [Inhabited α] (L : List α) : fillTo L 0 = List.replicate L.length default := by simp [fillTo]
theorem fillTo_all {α : Type} [Inhabited α] (L : List α) {k : Nat} (h : L.length ≤ k) : fillTo L k = L := by simp [fillTo, List.take_of_length_le h, Nat.sub_eq_zero_of_le h]
theorem fillTo_set {α : Type} [Inhabited α] {L : List α} {k : Nat} (h : k < L.length) : (fillTo L k).set k (L.getD k default) = fillTo L (k + 1) := by
  unfold fillTo
  rw [take_get h, show L.length - k = L.length - (k + 1) + 1 by omega, List.replicate_succ, List.set_append_right _ _ (by simp; omega)]
  have : k - (List.take k L).length = 0 := by simp; omega
  rw [this]; simp
theorem fill_step {α : Type} [Inhabited α] {f : α → List Cell} {L : List α} {k : Nat} {c : List Cell} (h : k < L.length) (hx : f (L.getD k default) = c) :
    ((fillTo L k).map f).set k c = (fillTo L (k + 1)).map f := by
  subst hx; rw [← List.map_set, fillTo_set h]
theorem fill_init {α : Type} [Inhabited α] {f : α → List Cell} {L : List α} {c : List Cell} (hx : f default = c) : List.replicate L.length c = (fillTo L 0).map f := by
  subst hx; simp [fillTo_zero]
class Row (α : Type) (C : α → List Cell) (F : outParam (α → List Cell)) (n : outParam Nat) : Prop where
  eq : ∀ x, C x = F x
  len : ∀ x, (F x).length = n
def intF (n : Int) : List Cell := [cI n]
def strF (n : ByteArray) : List Cell := [cS n]
instance : Row Int intC intF 1 := ⟨fun _ => rfl, fun _ => rfl⟩
instance : Row ByteArray strC strF 1 := ⟨fun _ => rfl, fun _ => rfl⟩
section
variable {α : Type} {C F : α → List Cell} {n : Nat}
theorem rowGet [Row α C F n] [Inhabited α] {L : List α} {i : Nat} (h : i < L.length) : (L.map C)[i]? = some (F (L.getD i default)) := getC h (Row.eq _)
theorem rowSnoc [Row α C F n] (L : List α) (x : α) : L.map C ++ [F x] = (L ++ [x]).map C := by simp [Row.eq (C := C) (F := F)]
theorem rowLens [Row α C F n] {L : List α} : ∀ e ∈ L.map C, e.length = n := by
  intro e he
  obtain ⟨x, _, rfl⟩ := List.mem_map.1 he; rw [Row.eq (C := C) (F := F)]; exact Row.len (C := C) x
end
def mkS (l : List UInt8) : ByteArray := ⟨l.toArray⟩
theorem mk_toArray (l : List UInt8) : ByteArray.mk l.toArray = mkS l := rfl
theorem tx_mkS (l : List UInt8) : (mkS l).data.toList = l := rfl
theorem mkS_inj (a b : List UInt8) : mkS a = mkS b ↔ a = b := by
  constructor
  · intro h; have := congrArg (fun s : ByteArray => s.data.toList) h; simpa [mkS] using this
  · intro h; rw [h]
theorem size_mkS (l : List UInt8) : (mkS l).size = l.length := rfl
theorem std : (∀ s : ByteArray, s.data.toList.length = s.size) ∧ (∀ {α β : Type} (f : α → β) (L : List α), (L.map f).length = L.length) ∧ (∀ n : Nat, (n : Int).toNat = n) ∧
    (∀ n : Int, rng .i64 n ↔ -9223372036854775808 ≤ n ∧ n ≤ 9223372036854775807) ∧ (∀ a b : List Ob, ObsEq a b ↔ a = b) ∧ (∀ {α : Type} (a b : List α), (a ++ b).length = a.length + b.length) ∧
    (∀ {α : Type} (n : Nat) (a : α), (List.replicate n a).length = n) ∧ (∀ {α : Type} [Inhabited α] (L : List α) (k : Nat), (fillTo L k).length = L.length) ∧ (∀ (p : Prop) [Decidable p], (decide p = true) = p) ∧
    (∀ (p : Prop) [Decidable p], (decide p = false) = ¬ p) ∧ (∀ {α : Type} (a b : α), (a ≠ b) = ¬ a = b) ∧ (∀ a b : Bool, (AV.sv (lb a) = AV.sv (lb b)) ↔ a = b) ∧ (∀ a b : Int, (AV.sv (li a) = AV.sv (li b)) ↔ a = b) ∧
    (∀ a b : ByteArray, (AV.sv (ls a) = AV.sv (ls b)) ↔ a = b) ∧ (∀ l : List UInt8, ByteArray.mk l.toArray = mkS l) ∧ (∀ l : List UInt8, (mkS l).data.toList = l) ∧ (∀ a b : List UInt8, mkS a = mkS b ↔ a = b) ∧
    (∀ l : List UInt8, (mkS l).size = l.length) ∧ (∀ {α β : Type} (f : α → β) (L : List α) (n : Nat), (L.map f).take n = (L.take n).map f) ∧ (∀ {α β : Type} (f : α → β) (L : List α) (n : Nat), (L.map f).drop n = (L.drop n).map f) ∧
    (∀ n : Nat, n - 0 = n) ∧ (∀ {α : Type} (L : List α), L.drop 0 = L) :=
  ⟨size_list, fun _ _ => List.length_map _, Int.toNat_natCast, @rng64, obsEq_iff, fun _ _ => List.length_append, fun _ _ => List.length_replicate, fillTo_len, @decide_eq_true_eq, fun p _ => propext (decide_eq_false_iff_not (p := p)), fun a b => rfl, lb_inj, li_inj, ls_inj, mk_toArray, tx_mkS, mkS_inj, size_mkS, fun _ _ _ => List.map_take.symm, fun _ _ _ => List.map_drop.symm, Nat.sub_zero, fun _ => List.drop_zero⟩
end Go.Proofs.Ytehpjofddjmbpaa
end
section
namespace Go.Proofs.Ytehpjofddjmbpaa
open Go Go.Proofs.Ytehpjofddjmbpaa.Ab
set_option linter.unusedVariables false
def sumBy {α : Type} (f : α → Nat) : List α → Nat
  | [] => 0
  | x :: r => f x + sumBy f r
theorem sumBy_mem {α : Type} (f : α → Nat) : ∀ {L : List α} {x : α}, x ∈ L → f x ≤ sumBy f L
  | y :: r, x, h => by
    rcases List.mem_cons.1 h with rfl | h
    · simp only [sumBy]; omega
    · have := sumBy_mem f h; simp only [sumBy]; omega
def wS (L : List ByteArray) : Nat := L.length + sumBy ByteArray.size L
structure Datum where
  kind : Int
  number : Int
  text : ByteArray
  items : List Datum
instance : Inhabited Datum := ⟨⟨0, 0, .empty, []⟩⟩
mutual
def datumC : Datum → List Cell
  | ⟨kind', number', text', items'⟩ => [cI kind', cI number', cS text', .list (datumCs items')]
def datumCs : List Datum → List (List Cell)
  | [] => []
  | x :: r => datumC x :: datumCs r
end
theorem datumCs_map : ∀ l : List Datum, datumCs l = l.map datumC
  | [] => by rw [datumCs]; rfl
  | x :: r => by rw [datumCs, datumCs_map r]; rfl
def datumF (x : Datum) : List Cell := [cI x.kind, cI x.number, cS x.text, .list (x.items.map datumC)]
theorem datumC_eq (x : Datum) : datumC x = datumF x := by cases x; simp only [datumC, datumF, datumCs_map]
mutual
def datumEq : Datum → Datum → Bool
  | ⟨kind1, number1, text1, items1⟩, ⟨kind2, number2, text2, items2⟩ => decide (kind1 = kind2) && decide (number1 = number2) && decide (text1 = text2) && datumEqs items1 items2
def datumEqs : List Datum → List Datum → Bool
  | [], [] => true
  | x :: r, y :: t => datumEq x y && datumEqs r t
  | _, _ => false
end
mutual
theorem datumEq_iff : ∀ a b : Datum, datumEq a b = true ↔ a = b
  | ⟨kind1, number1, text1, items1⟩, ⟨kind2, number2, text2, items2⟩ => by rw [datumEq]; simp only [Bool.and_eq_true, decide_eq_true_eq, datumEqs_iff items1 items2, Datum.mk.injEq, and_assoc]
theorem datumEqs_iff : ∀ a b : List Datum, datumEqs a b = true ↔ a = b
  | [], [] => by simp [datumEqs]
  | [], _ :: _ => by simp [datumEqs]
  | _ :: _, [] => by simp [datumEqs]
  | x :: r, y :: t => by rw [datumEqs, Bool.and_eq_true, datumEq_iff x y, datumEqs_iff r t, List.cons.injEq]
end
instance : DecidableEq Datum := fun a b => decidable_of_iff _ (datumEq_iff a b)
mutual
theorem Datum.ind {P : Datum → Prop} (h : ∀ x, (∀ y ∈ x.items, P y) → P x) : ∀ x, P x
  | ⟨kind', number', text', items'⟩ => h _ (fun y hy => Datum.inds h items' y hy)
theorem Datum.inds {P : Datum → Prop} (h : ∀ x, (∀ y ∈ x.items, P y) → P x) : ∀ (l : List Datum), ∀ y ∈ l, P y
  | [], y, hy => by cases hy
  | x :: r, y, hy => (List.mem_cons.1 hy).elim (fun e => e ▸ Datum.ind h x) (fun hy => Datum.inds h r y hy)
end
instance : Row Datum datumC datumF 4 := ⟨datumC_eq, fun _ => rfl⟩
structure Core where
  kind : Int
  number : Int
  params : List Int
  datum : Datum
  kids : List Core
instance : Inhabited Core := ⟨⟨0, 0, [], (default : Datum), []⟩⟩
mutual
def coreC : Core → List Cell
  | ⟨kind', number', params', datum', kids'⟩ => [cI kind', cI number', .list (params'.map intC), cI datum'.kind, cI datum'.number, cS datum'.text, .list (datum'.items.map datumC), .list (coreCs kids')]
def coreCs : List Core → List (List Cell)
  | [] => []
  | x :: r => coreC x :: coreCs r
end
theorem coreCs_map : ∀ l : List Core, coreCs l = l.map coreC
  | [] => by rw [coreCs]; rfl
  | x :: r => by rw [coreCs, coreCs_map r]; rfl
def coreF (x : Core) : List Cell := [cI x.kind, cI x.number, .list (x.params.map intC), cI x.datum.kind, cI x.datum.number, cS x.datum.text, .list (x.datum.items.map datumC), .list (x.kids.map coreC)]
theorem coreC_eq (x : Core) : coreC x = coreF x := by cases x; simp only [coreC, coreF, coreCs_map]
mutual
def coreEq : Core → Core → Bool
  | ⟨kind1, number1, params1, datum1, kids1⟩, ⟨kind2, number2, params2, datum2, kids2⟩ => decide (kind1 = kind2) && decide (number1 = number2) && decide (params1 = params2) && decide (datum1 = datum2) && coreEqs kids1 kids2
def coreEqs : List Core → List Core → Bool
  | [], [] => true
  | x :: r, y :: t => coreEq x y && coreEqs r t
  | _, _ => false
end
mutual
theorem coreEq_iff : ∀ a b : Core, coreEq a b = true ↔ a = b
  | ⟨kind1, number1, params1, datum1, kids1⟩, ⟨kind2, number2, params2, datum2, kids2⟩ => by rw [coreEq]; simp only [Bool.and_eq_true, decide_eq_true_eq, coreEqs_iff kids1 kids2, Core.mk.injEq, and_assoc]
theorem coreEqs_iff : ∀ a b : List Core, coreEqs a b = true ↔ a = b
  | [], [] => by simp [coreEqs]
  | [], _ :: _ => by simp [coreEqs]
  | _ :: _, [] => by simp [coreEqs]
  | x :: r, y :: t => by rw [coreEqs, Bool.and_eq_true, coreEq_iff x y, coreEqs_iff r t, List.cons.injEq]
end
instance : DecidableEq Core := fun a b => decidable_of_iff _ (coreEq_iff a b)
mutual
theorem Core.ind {P : Core → Prop} (h : ∀ x, (∀ y ∈ x.kids, P y) → P x) : ∀ x, P x
  | ⟨kind', number', params', datum', kids'⟩ => h _ (fun y hy => Core.inds h kids' y hy)
theorem Core.inds {P : Core → Prop} (h : ∀ x, (∀ y ∈ x.kids, P y) → P x) : ∀ (l : List Core), ∀ y ∈ l, P y
  | [], y, hy => by cases hy
  | x :: r, y, hy => (List.mem_cons.1 hy).elim (fun e => e ▸ Core.ind h x) (fun hy => Core.inds h r y hy)
end
instance : Row Core coreC coreF 8 := ⟨coreC_eq, fun _ => rfl⟩
structure Syntax where
  kind : Int
  number : Int
  text : ByteArray
  scopes : List Int
  items : List Syntax
instance : Inhabited Syntax := ⟨⟨0, 0, .empty, [], []⟩⟩
mutual
def syntaxC : Syntax → List Cell
  | ⟨kind', number', text', scopes', items'⟩ => [cI kind', cI number', cS text', .list (scopes'.map intC), .list (syntaxCs items')]
def syntaxCs : List Syntax → List (List Cell)
  | [] => []
  | x :: r => syntaxC x :: syntaxCs r
end
theorem syntaxCs_map : ∀ l : List Syntax, syntaxCs l = l.map syntaxC
  | [] => by rw [syntaxCs]; rfl
  | x :: r => by rw [syntaxCs, syntaxCs_map r]; rfl
def syntaxF (x : Syntax) : List Cell := [cI x.kind, cI x.number, cS x.text, .list (x.scopes.map intC), .list (x.items.map syntaxC)]
theorem syntaxC_eq (x : Syntax) : syntaxC x = syntaxF x := by cases x; simp only [syntaxC, syntaxF, syntaxCs_map]
mutual
def syntaxEq : Syntax → Syntax → Bool
  | ⟨kind1, number1, text1, scopes1, items1⟩, ⟨kind2, number2, text2, scopes2, items2⟩ => decide (kind1 = kind2) && decide (number1 = number2) && decide (text1 = text2) && decide (scopes1 = scopes2) && syntaxEqs items1 items2
def syntaxEqs : List Syntax → List Syntax → Bool
  | [], [] => true
  | x :: r, y :: t => syntaxEq x y && syntaxEqs r t
  | _, _ => false
end
mutual
theorem syntaxEq_iff : ∀ a b : Syntax, syntaxEq a b = true ↔ a = b
  | ⟨kind1, number1, text1, scopes1, items1⟩, ⟨kind2, number2, text2, scopes2, items2⟩ => by rw [syntaxEq]; simp only [Bool.and_eq_true, decide_eq_true_eq, syntaxEqs_iff items1 items2, Syntax.mk.injEq, and_assoc]
theorem syntaxEqs_iff : ∀ a b : List Syntax, syntaxEqs a b = true ↔ a = b
  | [], [] => by simp [syntaxEqs]
  | [], _ :: _ => by simp [syntaxEqs]
  | _ :: _, [] => by simp [syntaxEqs]
  | x :: r, y :: t => by rw [syntaxEqs, Bool.and_eq_true, syntaxEq_iff x y, syntaxEqs_iff r t, List.cons.injEq]
end
instance : DecidableEq Syntax := fun a b => decidable_of_iff _ (syntaxEq_iff a b)
mutual
theorem Syntax.ind {P : Syntax → Prop} (h : ∀ x, (∀ y ∈ x.items, P y) → P x) : ∀ x, P x
  | ⟨kind', number', text', scopes', items'⟩ => h _ (fun y hy => Syntax.inds h items' y hy)
theorem Syntax.inds {P : Syntax → Prop} (h : ∀ x, (∀ y ∈ x.items, P y) → P x) : ∀ (l : List Syntax), ∀ y ∈ l, P y
  | [], y, hy => by cases hy
  | x :: r, y, hy => (List.mem_cons.1 hy).elim (fun e => e ▸ Syntax.ind h x) (fun hy => Syntax.inds h r y hy)
end
theorem syntaxExt (a b : Syntax) : a = b ↔ a.kind = b.kind ∧ a.number = b.number ∧ a.text = b.text ∧ a.scopes = b.scopes ∧ a.items = b.items := by cases a; cases b; simp only [Syntax.mk.injEq]
instance : Row Syntax syntaxC syntaxF 5 := ⟨syntaxC_eq, fun _ => rfl⟩
abbrev syntaxA (x : Syntax) : SV := .agg (vals (syntaxF x))
abbrev syntaxR (x : Syntax) (i : Nat) : SV := .agg [vI x.kind, vI x.number, vS x.text, .ref (i + 0), .ref (i + 1)]
abbrev syntaxO (x : Syntax) : List Ob := [.arr true 1 (x.scopes.map intC), .arr true 5 (x.items.map syntaxC)]
mutual
def wY : Syntax → Nat
  | ⟨_, _, text', scopes', items'⟩ => text'.size + scopes'.length + wYs items'
def wYs : List Syntax → Nat
  | [] => 0
  | d :: r => 1 + wY d + wYs r
end
theorem wYs_eq : ∀ l, wYs l = l.length + sumBy wY l
  | [] => by simp [wYs, sumBy]
  | d :: r => by rw [wYs, wYs_eq r]; simp only [sumBy, List.length_cons]; omega
theorem wY_eq (x : Syntax) : wY x = x.text.size + x.scopes.length + (x.items.length + sumBy wY x.items) := by cases x; simp only [wY, wYs_eq]
structure Binding where
  text : ByteArray
  scopes : List Int
  kind : Int
  number : Int
instance : Inhabited Binding := ⟨⟨.empty, [], 0, 0⟩⟩
def bindingF (x : Binding) : List Cell := [cS x.text, .list (x.scopes.map intC), cI x.kind, cI x.number]
def bindingC (x : Binding) : List Cell := bindingF x
theorem bindingC_eq (x : Binding) : bindingC x = bindingF x := rfl
instance : DecidableEq Binding := fun a b => by cases a; cases b; rw [Binding.mk.injEq]; infer_instance
theorem bindingExt (a b : Binding) : a = b ↔ a.text = b.text ∧ a.scopes = b.scopes ∧ a.kind = b.kind ∧ a.number = b.number := by cases a; cases b; simp only [Binding.mk.injEq]
instance : Row Binding bindingC bindingF 4 := ⟨bindingC_eq, fun _ => rfl⟩
abbrev bindingA (x : Binding) : SV := .agg (vals (bindingF x))
abbrev bindingR (x : Binding) (i : Nat) : SV := .agg [vS x.text, .ref (i + 0), vI x.kind, vI x.number]
abbrev bindingO (x : Binding) : List Ob := [.arr true 1 (x.scopes.map intC)]
def wB (x : Binding) : Nat := x.text.size + x.scopes.length
theorem wB_eq (x : Binding) : wB x = x.text.size + x.scopes.length := rfl
structure Rules where
  literals : List Syntax
  patterns : List Syntax
  templates : List Syntax
instance : Inhabited Rules := ⟨⟨[], [], []⟩⟩
def rulesF (x : Rules) : List Cell := [.list (x.literals.map syntaxC), .list (x.patterns.map syntaxC), .list (x.templates.map syntaxC)]
def rulesC (x : Rules) : List Cell := rulesF x
theorem rulesC_eq (x : Rules) : rulesC x = rulesF x := rfl
instance : DecidableEq Rules := fun a b => by cases a; cases b; rw [Rules.mk.injEq]; infer_instance
theorem rulesExt (a b : Rules) : a = b ↔ a.literals = b.literals ∧ a.patterns = b.patterns ∧ a.templates = b.templates := by cases a; cases b; simp only [Rules.mk.injEq]
instance : Row Rules rulesC rulesF 3 := ⟨rulesC_eq, fun _ => rfl⟩
abbrev rulesA (x : Rules) : SV := .agg (vals (rulesF x))
abbrev rulesR (x : Rules) (i : Nat) : SV := .agg [.ref (i + 0), .ref (i + 1), .ref (i + 2)]
abbrev rulesO (x : Rules) : List Ob := [.arr true 5 (x.literals.map syntaxC), .arr true 5 (x.patterns.map syntaxC), .arr true 5 (x.templates.map syntaxC)]
def wR (x : Rules) : Nat := (x.literals.length + sumBy wY x.literals) + (x.patterns.length + sumBy wY x.patterns) + (x.templates.length + sumBy wY x.templates)
theorem wR_eq (x : Rules) : wR x = (x.literals.length + sumBy wY x.literals) + (x.patterns.length + sumBy wY x.patterns) + (x.templates.length + sumBy wY x.templates) := rfl
structure Capture where
  name : Syntax
  depth : Int
  form : Syntax
  each : List Capture
instance : Inhabited Capture := ⟨⟨(default : Syntax), 0, (default : Syntax), []⟩⟩
mutual
def captureC : Capture → List Cell
  | ⟨name', depth', form', each'⟩ => [cI name'.kind, cI name'.number, cS name'.text, .list (name'.scopes.map intC), .list (name'.items.map syntaxC), cI depth', cI form'.kind, cI form'.number, cS form'.text, .list (form'.scopes.map intC), .list (form'.items.map syntaxC), .list (captureCs each')]
def captureCs : List Capture → List (List Cell)
  | [] => []
  | x :: r => captureC x :: captureCs r
end
theorem captureCs_map : ∀ l : List Capture, captureCs l = l.map captureC
  | [] => by rw [captureCs]; rfl
  | x :: r => by rw [captureCs, captureCs_map r]; rfl
def captureF (x : Capture) : List Cell := [cI x.name.kind, cI x.name.number, cS x.name.text, .list (x.name.scopes.map intC), .list (x.name.items.map syntaxC), cI x.depth, cI x.form.kind, cI x.form.number, cS x.form.text, .list (x.form.scopes.map intC), .list (x.form.items.map syntaxC), .list (x.each.map captureC)]
theorem captureC_eq (x : Capture) : captureC x = captureF x := by cases x; simp only [captureC, captureF, captureCs_map]
mutual
def captureEq : Capture → Capture → Bool
  | ⟨name1, depth1, form1, each1⟩, ⟨name2, depth2, form2, each2⟩ => decide (name1 = name2) && decide (depth1 = depth2) && decide (form1 = form2) && captureEqs each1 each2
def captureEqs : List Capture → List Capture → Bool
  | [], [] => true
  | x :: r, y :: t => captureEq x y && captureEqs r t
  | _, _ => false
end
mutual
theorem captureEq_iff : ∀ a b : Capture, captureEq a b = true ↔ a = b
  | ⟨name1, depth1, form1, each1⟩, ⟨name2, depth2, form2, each2⟩ => by rw [captureEq]; simp only [Bool.and_eq_true, decide_eq_true_eq, captureEqs_iff each1 each2, Capture.mk.injEq, and_assoc]
theorem captureEqs_iff : ∀ a b : List Capture, captureEqs a b = true ↔ a = b
  | [], [] => by simp [captureEqs]
  | [], _ :: _ => by simp [captureEqs]
  | _ :: _, [] => by simp [captureEqs]
  | x :: r, y :: t => by rw [captureEqs, Bool.and_eq_true, captureEq_iff x y, captureEqs_iff r t, List.cons.injEq]
end
instance : DecidableEq Capture := fun a b => decidable_of_iff _ (captureEq_iff a b)
mutual
theorem Capture.ind {P : Capture → Prop} (h : ∀ x, (∀ y ∈ x.each, P y) → P x) : ∀ x, P x
  | ⟨name', depth', form', each'⟩ => h _ (fun y hy => Capture.inds h each' y hy)
theorem Capture.inds {P : Capture → Prop} (h : ∀ x, (∀ y ∈ x.each, P y) → P x) : ∀ (l : List Capture), ∀ y ∈ l, P y
  | [], y, hy => by cases hy
  | x :: r, y, hy => (List.mem_cons.1 hy).elim (fun e => e ▸ Capture.ind h x) (fun hy => Capture.inds h r y hy)
end
instance : Row Capture captureC captureF 12 := ⟨captureC_eq, fun _ => rfl⟩
structure Expander where
  bindings : List Binding
  macros : List Rules
  scope : Int
  vari : Int
  steps : Int
instance : Inhabited Expander := ⟨⟨[], [], 0, 0, 0⟩⟩
def expanderF (x : Expander) : List Cell := [.list (x.bindings.map bindingC), .list (x.macros.map rulesC), cI x.scope, cI x.vari, cI x.steps]
def expanderC (x : Expander) : List Cell := expanderF x
theorem expanderC_eq (x : Expander) : expanderC x = expanderF x := rfl
instance : DecidableEq Expander := fun a b => by cases a; cases b; rw [Expander.mk.injEq]; infer_instance
theorem expanderExt (a b : Expander) : a = b ↔ a.bindings = b.bindings ∧ a.macros = b.macros ∧ a.scope = b.scope ∧ a.vari = b.vari ∧ a.steps = b.steps := by cases a; cases b; simp only [Expander.mk.injEq]
instance : Row Expander expanderC expanderF 5 := ⟨expanderC_eq, fun _ => rfl⟩
abbrev expanderA (x : Expander) : SV := .agg (vals (expanderF x))
abbrev expanderR (x : Expander) (i : Nat) : SV := .agg [.ref (i + 0), .ref (i + 1), vI x.scope, vI x.vari, vI x.steps]
abbrev expanderO (x : Expander) : List Ob := [.arr true 4 (x.bindings.map bindingC), .arr true 3 (x.macros.map rulesC)]
def wX (x : Expander) : Nat := (x.bindings.length + sumBy wB x.bindings) + (x.macros.length + sumBy wR x.macros)
theorem wX_eq (x : Expander) : wX x = (x.bindings.length + sumBy wB x.bindings) + (x.macros.length + sumBy wR x.macros) := rfl
structure Module where
  name : ByteArray
  imports : List ByteArray
  exports : List ByteArray
  body : List Datum
instance : Inhabited Module := ⟨⟨.empty, [], [], []⟩⟩
def moduleF (x : Module) : List Cell := [cS x.name, .list (x.imports.map strC), .list (x.exports.map strC), .list (x.body.map datumC)]
def moduleC (x : Module) : List Cell := moduleF x
theorem moduleC_eq (x : Module) : moduleC x = moduleF x := rfl
instance : DecidableEq Module := fun a b => by cases a; cases b; rw [Module.mk.injEq]; infer_instance
instance : Row Module moduleC moduleF 4 := ⟨moduleC_eq, fun _ => rfl⟩
structure Export where
  modul : ByteArray
  text : ByteArray
  kind : Int
  number : Int
instance : Inhabited Export := ⟨⟨.empty, .empty, 0, 0⟩⟩
def exportF (x : Export) : List Cell := [cS x.modul, cS x.text, cI x.kind, cI x.number]
def exportC (x : Export) : List Cell := exportF x
theorem exportC_eq (x : Export) : exportC x = exportF x := rfl
instance : DecidableEq Export := fun a b => by cases a; cases b; rw [Export.mk.injEq]; infer_instance
instance : Row Export exportC exportF 4 := ⟨exportC_eq, fun _ => rfl⟩
structure Unit where
  name : ByteArray
  globals : List Int
  body : Core
instance : Inhabited Unit := ⟨⟨.empty, [], (default : Core)⟩⟩
def unitF (x : Unit) : List Cell := [cS x.name, .list (x.globals.map intC), cI x.body.kind, cI x.body.number, .list (x.body.params.map intC), cI x.body.datum.kind, cI x.body.datum.number, cS x.body.datum.text, .list (x.body.datum.items.map datumC), .list (x.body.kids.map coreC)]
def unitC (x : Unit) : List Cell := unitF x
theorem unitC_eq (x : Unit) : unitC x = unitF x := rfl
instance : DecidableEq Unit := fun a b => by cases a; cases b; rw [Unit.mk.injEq]; infer_instance
instance : Row Unit unitC unitF 10 := ⟨unitC_eq, fun _ => rfl⟩
structure World where
  expander : Expander
  units : List Unit
  exports : List Export
instance : Inhabited World := ⟨⟨(default : Expander), [], []⟩⟩
def worldF (x : World) : List Cell := [.list (x.expander.bindings.map bindingC), .list (x.expander.macros.map rulesC), cI x.expander.scope, cI x.expander.vari, cI x.expander.steps, .list (x.units.map unitC), .list (x.exports.map exportC)]
def worldC (x : World) : List Cell := worldF x
theorem worldC_eq (x : World) : worldC x = worldF x := rfl
instance : DecidableEq World := fun a b => by cases a; cases b; rw [World.mk.injEq]; infer_instance
instance : Row World worldC worldF 7 := ⟨worldC_eq, fun _ => rfl⟩
def sz (w : Nat) (left : Int) : Int := if (w : Int) ≤ left then left - w else -1
end Go.Proofs.Ytehpjofddjmbpaa
end
section
namespace Go.Proofs.Ytehpjofddjmbpaa
open Go Go.Proofs.Ytehpjofddjmbpaa.Ab Go.ChangeShapes
set_option linter.unusedVariables false
section
variable {H : Type} {enc : TypeId × Value → H} {P : Program} {w : Go.World} {sp : Nat → Bool} {hd : Bool} {fuel : Nat} {cs : List Value} {x : DataW H × List MemPlace}
abbrev Old (w : Go.World) (b : Nat) : Prop := b < w.heap.size
theorem rd_int {t : TypeId} {k : IntKind} (ht : P.underlying t = some (.int k)) (h : DataW.trod enc P w 0 sp hd fuel t cs = some x) : ∃ n : Int, All2 (Rd w (Old w)) cs [.lit (.int k n)] := by
  obtain ⟨n, rfl, _⟩ := DataW.trod_int ht h
  exact ⟨n, .lit trivial, trivial⟩
theorem rd_string {t : TypeId} (ht : P.underlying t = some .string) (h : DataW.trod enc P w 0 sp hd fuel t cs = some x) : ∃ s : ByteArray, All2 (Rd w (Old w)) cs [.lit (.string s)] := by
  obtain ⟨s, rfl, _, hs⟩ := DataW.trod_string ht h
  exact ⟨s, .lit hs, trivial⟩
theorem rd_slice {α : Type} [Inhabited α] {C : α → List Cell} {t e : TypeId} (ht : P.underlying t = some (.slice e)) (hpos : 0 < P.cellsOf e)
    (hC : ∀ a, (C a).length = P.cellsOf e)
    (hel : ∀ n, n < fuel → ∀ (cs : List Value) (x : DataW H × List MemPlace), DataW.trod enc P w 0 sp hd n e cs = some x → ∃ a, All2 (Rd w (Old w)) cs (C a))
    (h : DataW.trod enc P w 0 sp hd fuel t cs = some x) : ∃ L : List α, All2 (Rd w (Old w)) cs [.list (L.map C)] := by
  rcases DataW.trod_slice ht h with ⟨rfl, _⟩ | ⟨a, len, cap, elems, rest, n, hn, rfl, _, _, hl, hm, hlen, hel2, _, _⟩
  · exact ⟨[], Rd.nil, trivial⟩
  have hone : ∀ i, i < len → ∃ p : List Value × α, w.cells? 0 (a.add (i * P.cellsOf e)) (P.cellsOf e) = some p.1 ∧ All2 (Rd w (Old w)) p.1 (C p.2) := by
    intro i hi
    have hb := hel2 i hi
    rw [List.getElem?_eq_getElem (by omega)] at hb
    obtain ⟨cs', h1, h2⟩ := Option.bind_eq_some_iff.1 hb
    obtain ⟨y, hy⟩ := hel n (by omega) cs' _ h2
    exact ⟨(cs', y), h1, hy⟩
  obtain ⟨f, hf⟩ := Go.Deep.choose_lt hone
  let L : List α := (List.range len).map fun i => (f i).2
  have hL : L.length = len := by simp [L]
  rcases Nat.eq_zero_or_pos len with h0 | h0
  · subst h0
    have : L = [] := by simp [L]
    exact ⟨[], Rd.nil, trivial⟩
  have hcell : ∀ i k, i < len → k < P.cellsOf e → ∃ v c, w.cell? (a.add (i * P.cellsOf e + k)) = some v ∧ (C (f i).2)[k]? = some c ∧ Rd w (Old w) v c := by
    intro i k hi hk
    obtain ⟨h1, h2⟩ := hf i hi
    obtain ⟨_, h3, h4⟩ := Go.World.cells?_some h1
    have h5 := h4 k hk
    rw [Go.Deep.add_add] at h5
    have h6 : k < (f i).1.length := by omega
    rw [List.getElem?_eq_getElem h6] at h5
    have h7 : k < (C (f i).2).length := by rw [hC]; exact hk
    exact ⟨_, _, h5, List.getElem?_eq_getElem h7, h2.get (List.getElem?_eq_getElem h6) (List.getElem?_eq_getElem h7)⟩
  have hspot : a.spot = none := by
    obtain ⟨v, _, h1, _⟩ := hcell 0 0 h0 hpos
    simp only [Nat.zero_mul, Nat.add_zero, Addr.add, if_true] at h1
    unfold Go.World.cell? at h1
    split at h1
    · split at h1
      · cases h1
      · rename_i hs; simpa using hs
    · cases h1
  have haddr : ∀ j, a.add j = ⟨a.block, a.off + j, none⟩ := by
    intro j
    unfold Addr.add
    split
    · rename_i hj; subst hj; cases a; simp_all
    · rfl
  have hblk : a.block < w.heap.size := by
    obtain ⟨v, _, h1, _⟩ := hcell 0 0 h0 hpos
    unfold Go.World.cell? at h1
    rw [haddr] at h1
    simp only at h1
    cases hh : w.heap[a.block]? with
    | none => rw [hh] at h1; cases h1
    | some o => exact (Array.getElem?_eq_some_iff.1 hh).1
  refine ⟨L, ?_, trivial⟩
  have hval : (Value.slice (some a) len cap) = .slice (some ⟨a.block, a.off, none⟩) (L.map C).length cap := by
    rw [List.length_map, hL]; cases a; simp_all
  rw [hval]
  have hszL : ∀ es ∈ L.map C, es.length = P.cellsOf e := by
    intro es hes; obtain ⟨y, _, rfl⟩ := List.mem_map.1 hes; exact hC y
  have hflat : (L.map C).flatten.length = len * P.cellsOf e := by rw [flatten_length hszL, List.length_map, hL]
  refine Rd.slice (sz := P.cellsOf e) (xs := (List.range (len * P.cellsOf e)).map fun j => (w.cell? (a.add j)).getD undef) hblk (by rw [List.length_map, hL]; exact hl) hm hszL (by rw [hflat]; simp) ?_ ?_
  · intro j u hu
    have hj : j < len * P.cellsOf e := by
      have := (List.getElem?_eq_some_iff.1 hu).1; simpa using this
    simp only [List.getElem?_map, List.getElem?_range hj, Option.map_some, Option.some.injEq] at hu
    obtain ⟨v, _, h1, _⟩ := hcell (j / P.cellsOf e) (j % P.cellsOf e) (Nat.div_lt_of_lt_mul (by rw [Nat.mul_comm]; exact hj)) (Nat.mod_lt _ hpos)
    have hdm : j / P.cellsOf e * P.cellsOf e + j % P.cellsOf e = j := by rw [Nat.mul_comm]; exact Nat.div_add_mod j _
    rw [hdm] at h1
    rw [h1] at hu
    rw [← haddr, h1]
    simpa using hu
  · intro j u c hu hc
    have hj : j < len * P.cellsOf e := by
      have := (List.getElem?_eq_some_iff.1 hu).1; simpa using this
    simp only [List.getElem?_map, List.getElem?_range hj, Option.map_some, Option.some.injEq] at hu
    have hi : j / P.cellsOf e < len := Nat.div_lt_of_lt_mul (by rw [Nat.mul_comm]; exact hj)
    obtain ⟨v, c', h1, h2, h3⟩ := hcell (j / P.cellsOf e) (j % P.cellsOf e) hi (Nat.mod_lt _ hpos)
    have hdm : j / P.cellsOf e * P.cellsOf e + j % P.cellsOf e = j := by rw [Nat.mul_comm]; exact Nat.div_add_mod j _
    rw [hdm] at h1
    rw [h1] at hu
    have hLi : (L.map C)[j / P.cellsOf e]? = some (C (f (j / P.cellsOf e)).2) := by simp [L, hi]
    have := flatten_get hszL hLi h2
    rw [hdm, hc] at this
    simp only [Option.some.injEq] at this
    subst this
    simp only [Option.getD_some] at hu
    subst hu
    exact h3
theorem seg {R : Value → Cell → Prop} {cs : List Value} {k n m : Nat} {a b : List Cell} (h1 : All2 R ((cs.drop k).take n) a) (h2 : All2 R (cs.drop m) b) (e : k + n = m) : All2 R (cs.drop k) (a ++ b) := by
  subst e
  have := h1.append h2
  rwa [← List.drop_drop, List.take_append_drop] at this
theorem segEnd {R : Value → Cell → Prop} {cs : List Value} {n : Nat} (h : cs.length = n) : All2 R (cs.drop n) [] := by
  rw [List.drop_of_length_le (by omega)]; trivial
theorem trod_field {fs : Array Field} {xs : List (DataW H × List MemPlace)} {n : Nat} (hlen : xs.length = fs.size)
    (h : ∀ (i : Nat) (f : Field), fs[i]? = some f → DataW.trod enc P w 0 sp hd n f.type ((cs.drop f.offset).take (P.cellsOf f.type)) = xs[i]?) (i : Nat) {f : Field} (hf : fs[i]? = some f) :
    ∃ y, DataW.trod enc P w 0 sp hd n f.type ((cs.drop f.offset).take (P.cellsOf f.type)) = some y := by
  have hi : i < fs.size := (Array.getElem?_eq_some_iff.1 hf).1
  exact ⟨xs[i]'(by omega), by rw [h i f hf]; exact List.getElem?_eq_getElem _⟩
theorem sameAt_kept {W W' : Go.World} (hk : W.kept W') {p : MemPlace} (hp : p.block < W.heap.size) : W.sameAt W' p := by
  cases p with
  | cell b off => exact cell_of_heap (hk.2.2 b hp)
  | map b => exact hk.2.2 b hp
theorem trodAll_kept {W W' : Go.World} (hl : laidOutB P = true) (hmr : mapsRowed P = true) (hsz : ((List.range P.types.size).all fun t => match P.underlying t with | some (.slice e) => decide (0 < P.cellsOf e) | _ => true) = true)
    (hk : W.kept W') {sp : Nat → Bool} : ∀ {ts : List TypeId} {vs : List Value} {ds : List (DataW H)} {ps : List MemPlace}, (∀ t ∈ ts, t < P.types.size) → DataW.TrodAll enc P W 0 (fun _ => true) true ts vs ds ps → (∀ p ∈ ps, sp p.block = true) →
      DataW.TrodAll enc P W' 0 sp true ts vs ds ps
  | [], [], [], ps, _, h, _ => h
  | t :: ts, v :: vs, d :: ds, ps, ht, ⟨p, q, ⟨fuel, hf⟩, h2, e⟩, hs => by
    subst e
    have hlt := DataW.trod_lt _ _ _ _ hf
    refine ⟨p, q, ⟨fuel, DataW.trod_stays (kids_rows hl hmr) (fun {t e} ht hu => ?_) (fun hh => by cases hh) (ht t List.mem_cons_self) hf (fun y hy => sameAt_kept hk (hlt y hy)) (fun y hy => hs y (List.mem_append_left _ hy))⟩,
      trodAll_kept hl hmr hsz hk (fun t ht' => ht t (List.mem_cons_of_mem _ ht')) h2 (fun y hy => hs y (List.mem_append_right _ hy)), rfl⟩
    have := List.all_eq_true.1 hsz t (List.mem_range.2 ht)
    rw [hu] at this
    simpa using this
  | [], _ :: _, _, _, _, h, _ => h.elim
  | [], [], _ :: _, _, _, h, _ => h.elim
  | _ :: _, [], _, _, _, h, _ => h.elim
  | _ :: _, _ :: _, [], _, _, h, _ => h.elim
theorem agg_rel {W : Go.World} {v : Value} {cs : List Cell} (h : ∃ arr, v = .agg arr) (hc : All2 (Rd W (Old W)) v.cells.toList cs) : SVRel W (allI W) (obOf []) (.agg (vals cs)) v := by
  obtain ⟨arr, rfl⟩ := h
  refine ⟨arr, rfl, ?_⟩
  have : (Value.agg arr).cells = arr := rfl
  rw [this] at hc
  exact All2.map_left _ (hc.flip.imp fun c u hr => ⟨hr, hr.one⟩) |>.imp fun _ _ h => h
end
end Go.Proofs.Ytehpjofddjmbpaa
end
section
namespace Go.Proofs.Ytehpjofddjmbpaa
open Go Go.Proofs.Ytehpjofddjmbpaa.Ab Go.ChangeShapes
set_option linter.unusedVariables false
set_option maxRecDepth 100000
section
variable {H : Type} {enc : TypeId × Value → H} {w : Go.World} {sp : Nat → Bool} {hd : Bool}
theorem rd_syntax : ∀ (fuel : Nat) (cs : List Value) (x : DataW H × List MemPlace), DataW.trod enc Try.prog w 0 sp hd fuel 75 cs = some x → ∃ a : Syntax, All2 (Rd w (Old w)) cs (syntaxF a) := by
  intro fuel
  induction fuel using Nat.strongRecOn with | _ fuel ih =>
  intro cs x h
  obtain ⟨xs, n, rfl, _, hlen, hxs, hf⟩ := DataW.trod_struct Try.underlying75 h
  have hlen : cs.length = 5 := hlen.trans (by kernel_rfl)
  obtain ⟨y0, h0⟩ := trod_field hxs hf 0 (by rfl)
  obtain ⟨a0, r0⟩ := rd_int Try.underlying3 h0
  obtain ⟨y1, h1⟩ := trod_field hxs hf 1 (by rfl)
  obtain ⟨a1, r1⟩ := rd_int Try.underlying3 h1
  obtain ⟨y2, h2⟩ := trod_field hxs hf 2 (by rfl)
  obtain ⟨a2, r2⟩ := rd_string Try.underlying9 h2
  obtain ⟨y3, h3⟩ := trod_field hxs hf 3 (by rfl)
  obtain ⟨a3, r3⟩ := rd_slice (C := intC) Try.underlying32 (by rw [show Try.prog.cellsOf 3 = 1 from by kernel_rfl]; decide) (fun a => by kernel_rfl) (fun m hm cs x h => rd_int Try.underlying3 h) h3
  obtain ⟨y4, h4⟩ := trod_field hxs hf 4 (by rfl)
  obtain ⟨a4, r4⟩ := rd_slice (C := syntaxC) Try.underlying73 (by rw [show Try.prog.cellsOf 75 = 5 from by kernel_rfl]; decide) (fun a => by rw [syntaxC_eq]; kernel_rfl) (fun m hm cs x h => by obtain ⟨a, ha⟩ := ih m (by omega) cs x h; exact ⟨a, by rw [syntaxC_eq]; exact ha⟩) h4
  exact ⟨⟨a0, a1, a2, a3, a4⟩, seg r0 (seg r1 (seg r2 (seg r3 (seg r4 (segEnd hlen) (by kernel_rfl)) (by kernel_rfl)) (by kernel_rfl)) (by kernel_rfl)) (by kernel_rfl)⟩
theorem rd_binding : ∀ (fuel : Nat) (cs : List Value) (x : DataW H × List MemPlace), DataW.trod enc Try.prog w 0 sp hd fuel 246 cs = some x → ∃ a : Binding, All2 (Rd w (Old w)) cs (bindingF a) := by
  intro fuel
  induction fuel using Nat.strongRecOn with | _ fuel ih =>
  intro cs x h
  obtain ⟨xs, n, rfl, _, hlen, hxs, hf⟩ := DataW.trod_struct Try.underlying246 h
  have hlen : cs.length = 4 := hlen.trans (by kernel_rfl)
  obtain ⟨y0, h0⟩ := trod_field hxs hf 0 (by rfl)
  obtain ⟨a0, r0⟩ := rd_string Try.underlying9 h0
  obtain ⟨y1, h1⟩ := trod_field hxs hf 1 (by rfl)
  obtain ⟨a1, r1⟩ := rd_slice (C := intC) Try.underlying32 (by rw [show Try.prog.cellsOf 3 = 1 from by kernel_rfl]; decide) (fun a => by kernel_rfl) (fun m hm cs x h => rd_int Try.underlying3 h) h1
  obtain ⟨y2, h2⟩ := trod_field hxs hf 2 (by rfl)
  obtain ⟨a2, r2⟩ := rd_int Try.underlying3 h2
  obtain ⟨y3, h3⟩ := trod_field hxs hf 3 (by rfl)
  obtain ⟨a3, r3⟩ := rd_int Try.underlying3 h3
  exact ⟨⟨a0, a1, a2, a3⟩, seg r0 (seg r1 (seg r2 (seg r3 (segEnd hlen) (by kernel_rfl)) (by kernel_rfl)) (by kernel_rfl)) (by kernel_rfl)⟩
theorem rd_rules : ∀ (fuel : Nat) (cs : List Value) (x : DataW H × List MemPlace), DataW.trod enc Try.prog w 0 sp hd fuel 141 cs = some x → ∃ a : Rules, All2 (Rd w (Old w)) cs (rulesF a) := by
  intro fuel
  induction fuel using Nat.strongRecOn with | _ fuel ih =>
  intro cs x h
  obtain ⟨xs, n, rfl, _, hlen, hxs, hf⟩ := DataW.trod_struct Try.underlying141 h
  have hlen : cs.length = 3 := hlen.trans (by kernel_rfl)
  obtain ⟨y0, h0⟩ := trod_field hxs hf 0 (by rfl)
  obtain ⟨a0, r0⟩ := rd_slice (C := syntaxC) Try.underlying73 (by rw [show Try.prog.cellsOf 75 = 5 from by kernel_rfl]; decide) (fun a => by rw [syntaxC_eq]; kernel_rfl) (fun m hm cs x h => by obtain ⟨a, ha⟩ := rd_syntax m cs x h; exact ⟨a, by rw [syntaxC_eq]; exact ha⟩) h0
  obtain ⟨y1, h1⟩ := trod_field hxs hf 1 (by rfl)
  obtain ⟨a1, r1⟩ := rd_slice (C := syntaxC) Try.underlying73 (by rw [show Try.prog.cellsOf 75 = 5 from by kernel_rfl]; decide) (fun a => by rw [syntaxC_eq]; kernel_rfl) (fun m hm cs x h => by obtain ⟨a, ha⟩ := rd_syntax m cs x h; exact ⟨a, by rw [syntaxC_eq]; exact ha⟩) h1
  obtain ⟨y2, h2⟩ := trod_field hxs hf 2 (by rfl)
  obtain ⟨a2, r2⟩ := rd_slice (C := syntaxC) Try.underlying73 (by rw [show Try.prog.cellsOf 75 = 5 from by kernel_rfl]; decide) (fun a => by rw [syntaxC_eq]; kernel_rfl) (fun m hm cs x h => by obtain ⟨a, ha⟩ := rd_syntax m cs x h; exact ⟨a, by rw [syntaxC_eq]; exact ha⟩) h2
  exact ⟨⟨a0, a1, a2⟩, seg r0 (seg r1 (seg r2 (segEnd hlen) (by kernel_rfl)) (by kernel_rfl)) (by kernel_rfl)⟩
theorem rd_expander : ∀ (fuel : Nat) (cs : List Value) (x : DataW H × List MemPlace), DataW.trod enc Try.prog w 0 sp hd fuel 56 cs = some x → ∃ a : Expander, All2 (Rd w (Old w)) cs (expanderF a) := by
  intro fuel
  induction fuel using Nat.strongRecOn with | _ fuel ih =>
  intro cs x h
  obtain ⟨xs, n, rfl, _, hlen, hxs, hf⟩ := DataW.trod_struct Try.underlying56 h
  have hlen : cs.length = 5 := hlen.trans (by kernel_rfl)
  obtain ⟨y0, h0⟩ := trod_field hxs hf 0 (by rfl)
  obtain ⟨a0, r0⟩ := rd_slice (C := bindingC) Try.underlying53 (by rw [show Try.prog.cellsOf 246 = 4 from by kernel_rfl]; decide) (fun a => by rw [bindingC_eq]; kernel_rfl) (fun m hm cs x h => by obtain ⟨a, ha⟩ := rd_binding m cs x h; exact ⟨a, by rw [bindingC_eq]; exact ha⟩) h0
  obtain ⟨y1, h1⟩ := trod_field hxs hf 1 (by rfl)
  obtain ⟨a1, r1⟩ := rd_slice (C := rulesC) Try.underlying54 (by rw [show Try.prog.cellsOf 141 = 3 from by kernel_rfl]; decide) (fun a => by rw [rulesC_eq]; kernel_rfl) (fun m hm cs x h => by obtain ⟨a, ha⟩ := rd_rules m cs x h; exact ⟨a, by rw [rulesC_eq]; exact ha⟩) h1
  obtain ⟨y2, h2⟩ := trod_field hxs hf 2 (by rfl)
  obtain ⟨a2, r2⟩ := rd_int Try.underlying3 h2
  obtain ⟨y3, h3⟩ := trod_field hxs hf 3 (by rfl)
  obtain ⟨a3, r3⟩ := rd_int Try.underlying3 h3
  obtain ⟨y4, h4⟩ := trod_field hxs hf 4 (by rfl)
  obtain ⟨a4, r4⟩ := rd_int Try.underlying3 h4
  exact ⟨⟨a0, a1, a2, a3, a4⟩, seg r0 (seg r1 (seg r2 (seg r3 (seg r4 (segEnd hlen) (by kernel_rfl)) (by kernel_rfl)) (by kernel_rfl)) (by kernel_rfl)) (by kernel_rfl)⟩
end
end Go.Proofs.Ytehpjofddjmbpaa
end
section
namespace Go.Proofs.Ytehpjofddjmbpaa
open Go
set_option maxRecDepth 100000
def headSigns : List Char := (List.map Char.ofNat [104, 97, 114, 110, 101, 115, 115, 32, 57, 97, 54, 52, 98, 52, 55, 98, 57, 100, 98, 98, 56, 101, 98, 101, 53, 98, 101, 99, 56, 49, 99, 49, 97, 54, 49, 49, 101, 97, 102, 48, 101, 98, 53, 51, 49, 98, 49, 100, 48, 55, 100, 100, 51, 100, 51, 97, 55, 55, 102, 55, 51, 57, 102, 53, 50, 50, 98, 101, 51, 54, 49, 56, 32, 99, 117, 116, 32, 97, 116, 32, 108, 111, 111, 112, 46, 101, 120, 97, 109, 112, 108, 101, 47, 103, 48, 51, 50, 50, 48, 47, 108, 97, 119, 115, 46, 70, 110, 69, 120, 97, 99, 116, 78, 101, 119, 69, 120, 112, 97, 110, 100, 101, 114, 32, 108, 111, 111, 112, 46, 101, 120, 97, 109, 112, 108, 101, 47, 103, 48, 51, 50, 50, 48, 47, 108, 97, 119, 115, 46, 70, 110, 69, 120, 97, 99, 116, 71, 108, 111, 98, 97, 108, 115, 79, 102, 32, 108, 111, 111, 112, 46, 101, 120, 97, 109, 112, 108, 101, 47, 103, 48, 51, 50, 50, 48, 47, 108, 97, 119, 115, 46, 70, 110, 69, 120, 97, 99, 116, 73, 115, 77, 111, 100, 117, 108, 101, 32, 108, 111, 111, 112, 46, 101, 120, 97, 109, 112, 108, 101, 47, 103, 48, 51, 50, 50, 48, 47, 108, 97, 119, 115, 46, 70, 110, 69, 120, 97, 99, 116, 69, 113, 117, 97, 108, 69, 120, 112, 97, 110, 100, 101, 114, 115, 32, 108, 111, 111, 112, 46, 101, 120, 97, 109, 112, 108, 101, 47, 103, 48, 51, 50, 50, 48, 47, 108, 97, 119, 115, 46, 70, 110, 69, 120, 97, 99, 116, 80, 97, 114, 115, 101, 77, 111, 100, 117, 108, 101, 32, 108, 111, 111, 112, 46, 101, 120, 97, 109, 112, 108, 101, 47, 103, 48, 51, 50, 50, 48, 47, 108, 97, 119, 115, 46, 70, 110, 69, 120, 97, 99, 116, 84, 101, 109, 112, 108, 97, 116, 101, 70, 105, 116, 115, 32, 108, 111, 111, 112, 46, 101, 120, 97, 109, 112, 108, 101, 47, 103, 48, 51, 50, 50, 48, 47, 108, 97, 119, 115, 46, 70, 110, 69, 120, 97, 99, 116, 73, 115, 67, 111, 114, 101, 32, 108, 111, 111, 112, 46, 101, 120, 97, 109, 112, 108, 101, 47, 103, 48, 51, 50, 50, 48, 47, 108, 97, 119, 115, 46, 70, 110, 69, 120, 97, 99, 116, 73, 115, 83, 105, 109, 112, 108, 101, 32, 108, 111, 111, 112, 46, 101, 120, 97, 109, 112, 108, 101, 47, 103, 48, 51, 50, 50, 48, 47, 108, 97, 119, 115, 46, 70, 110, 69, 120, 97, 99, 116, 70, 105, 110, 100, 69, 120, 112, 111, 114, 116, 32, 108, 111, 111, 112, 46, 101, 120, 97, 109, 112, 108, 101, 47, 103, 48, 51, 50, 50, 48, 47, 108, 97, 119, 115, 46, 70, 110, 69, 120, 97, 99, 116, 85, 110, 105, 116, 70, 105, 116, 115, 32, 108, 111, 111, 112, 46, 101, 120, 97, 109, 112, 108, 101, 47, 103, 48, 51, 50, 50, 48, 47, 108, 97, 119, 115, 46, 70, 110, 69, 120, 97, 99, 116, 65, 108, 112, 104, 97, 69, 113, 117, 97, 108, 32, 108, 111, 111, 112, 46, 101, 120, 97, 109, 112, 108, 101, 47, 103, 48, 51, 50, 50, 48, 47, 108, 97, 119, 115, 46, 70, 110, 65, 108, 112, 104, 97, 32, 108, 111, 111, 112, 46, 101, 120, 97, 109, 112, 108, 101, 47, 103, 48, 51, 50, 50, 48, 47, 108, 97, 119, 115, 46, 70, 110, 69, 120, 97, 99, 116, 80, 97, 116, 116, 101, 114, 110, 86, 97, 114, 105, 97, 98, 108, 101, 115, 32, 108, 111, 111, 112, 46, 101, 120, 97, 109, 112, 108, 101, 47, 103, 48, 51, 50, 50, 48, 47, 108, 97, 119, 115, 46, 70, 110, 69, 120, 97, 99, 116, 73, 115, 82, 117, 108, 101, 115, 32, 108, 111, 111, 112, 46, 101, 120, 97, 109, 112, 108, 101, 47, 103, 48, 51, 50, 50, 48, 47, 108, 97, 119, 115, 46, 70, 110, 69, 120, 97, 99, 116, 73, 110, 115, 116, 97, 110, 116, 105, 97, 116, 101, 32, 108, 111, 111, 112, 46, 101, 120, 97, 109, 112, 108, 101, 47, 103, 48, 51, 50, 50, 48, 47, 108, 97, 119, 115, 46, 70, 110, 69, 120, 97, 99, 116, 82, 101, 110, 117, 109, 98, 101, 114, 67, 111, 114, 101])
def headWords : List (List Char) := [(List.map Char.ofNat [104, 97, 114, 110, 101, 115, 115]),
  (List.map Char.ofNat [57, 97, 54, 52, 98, 52, 55, 98, 57, 100, 98, 98, 56, 101, 98, 101, 53, 98, 101, 99, 56, 49, 99, 49, 97, 54, 49, 49, 101, 97, 102, 48, 101, 98, 53, 51, 49, 98, 49, 100, 48, 55, 100, 100, 51, 100, 51, 97, 55, 55, 102, 55, 51, 57, 102, 53, 50, 50, 98, 101, 51, 54, 49, 56]),
  (List.map Char.ofNat [99, 117, 116]),
  (List.map Char.ofNat [97, 116]),
  (List.map Char.ofNat [108, 111, 111, 112, 46, 101, 120, 97, 109, 112, 108, 101, 47, 103, 48, 51, 50, 50, 48, 47, 108, 97, 119, 115, 46, 70, 110, 69, 120, 97, 99, 116, 78, 101, 119, 69, 120, 112, 97, 110, 100, 101, 114]),
  (List.map Char.ofNat [108, 111, 111, 112, 46, 101, 120, 97, 109, 112, 108, 101, 47, 103, 48, 51, 50, 50, 48, 47, 108, 97, 119, 115, 46, 70, 110, 69, 120, 97, 99, 116, 71, 108, 111, 98, 97, 108, 115, 79, 102]),
  (List.map Char.ofNat [108, 111, 111, 112, 46, 101, 120, 97, 109, 112, 108, 101, 47, 103, 48, 51, 50, 50, 48, 47, 108, 97, 119, 115, 46, 70, 110, 69, 120, 97, 99, 116, 73, 115, 77, 111, 100, 117, 108, 101]),
  (List.map Char.ofNat [108, 111, 111, 112, 46, 101, 120, 97, 109, 112, 108, 101, 47, 103, 48, 51, 50, 50, 48, 47, 108, 97, 119, 115, 46, 70, 110, 69, 120, 97, 99, 116, 69, 113, 117, 97, 108, 69, 120, 112, 97, 110, 100, 101, 114, 115]),
  (List.map Char.ofNat [108, 111, 111, 112, 46, 101, 120, 97, 109, 112, 108, 101, 47, 103, 48, 51, 50, 50, 48, 47, 108, 97, 119, 115, 46, 70, 110, 69, 120, 97, 99, 116, 80, 97, 114, 115, 101, 77, 111, 100, 117, 108, 101]),
  (List.map Char.ofNat [108, 111, 111, 112, 46, 101, 120, 97, 109, 112, 108, 101, 47, 103, 48, 51, 50, 50, 48, 47, 108, 97, 119, 115, 46, 70, 110, 69, 120, 97, 99, 116, 84, 101, 109, 112, 108, 97, 116, 101, 70, 105, 116, 115]),
  (List.map Char.ofNat [108, 111, 111, 112, 46, 101, 120, 97, 109, 112, 108, 101, 47, 103, 48, 51, 50, 50, 48, 47, 108, 97, 119, 115, 46, 70, 110, 69, 120, 97, 99, 116, 73, 115, 67, 111, 114, 101]),
  (List.map Char.ofNat [108, 111, 111, 112, 46, 101, 120, 97, 109, 112, 108, 101, 47, 103, 48, 51, 50, 50, 48, 47, 108, 97, 119, 115, 46, 70, 110, 69, 120, 97, 99, 116, 73, 115, 83, 105, 109, 112, 108, 101]),
  (List.map Char.ofNat [108, 111, 111, 112, 46, 101, 120, 97, 109, 112, 108, 101, 47, 103, 48, 51, 50, 50, 48, 47, 108, 97, 119, 115, 46, 70, 110, 69, 120, 97, 99, 116, 70, 105, 110, 100, 69, 120, 112, 111, 114, 116]),
  (List.map Char.ofNat [108, 111, 111, 112, 46, 101, 120, 97, 109, 112, 108, 101, 47, 103, 48, 51, 50, 50, 48, 47, 108, 97, 119, 115, 46, 70, 110, 69, 120, 97, 99, 116, 85, 110, 105, 116, 70, 105, 116, 115]),
  (List.map Char.ofNat [108, 111, 111, 112, 46, 101, 120, 97, 109, 112, 108, 101, 47, 103, 48, 51, 50, 50, 48, 47, 108, 97, 119, 115, 46, 70, 110, 69, 120, 97, 99, 116, 65, 108, 112, 104, 97, 69, 113, 117, 97, 108]),
  (List.map Char.ofNat [108, 111, 111, 112, 46, 101, 120, 97, 109, 112, 108, 101, 47, 103, 48, 51, 50, 50, 48, 47, 108, 97, 119, 115, 46, 70, 110, 65, 108, 112, 104, 97]),
  (List.map Char.ofNat [108, 111, 111, 112, 46, 101, 120, 97, 109, 112, 108, 101, 47, 103, 48, 51, 50, 50, 48, 47, 108, 97, 119, 115, 46, 70, 110, 69, 120, 97, 99, 116, 80, 97, 116, 116, 101, 114, 110, 86, 97, 114, 105, 97, 98, 108, 101, 115]),
  (List.map Char.ofNat [108, 111, 111, 112, 46, 101, 120, 97, 109, 112, 108, 101, 47, 103, 48, 51, 50, 50, 48, 47, 108, 97, 119, 115, 46, 70, 110, 69, 120, 97, 99, 116, 73, 115, 82, 117, 108, 101, 115]),
  (List.map Char.ofNat [108, 111, 111, 112, 46, 101, 120, 97, 109, 112, 108, 101, 47, 103, 48, 51, 50, 50, 48, 47, 108, 97, 119, 115, 46, 70, 110, 69, 120, 97, 99, 116, 73, 110, 115, 116, 97, 110, 116, 105, 97, 116, 101]),
  (List.map Char.ofNat [108, 111, 111, 112, 46, 101, 120, 97, 109, 112, 108, 101, 47, 103, 48, 51, 50, 50, 48, 47, 108, 97, 119, 115, 46, 70, 110, 69, 120, 97, 99, 116, 82, 101, 110, 117, 109, 98, 101, 114, 67, 111, 114, 101])]
theorem head_text : Try.pinned.checked.prog.initOrder = String.ofList headSigns := by kernel_rfl
theorem head_words : wordsSigns headSigns = headWords := by kernel_rfl
theorem words : wordsSigns Try.pinned.checked.prog.initOrder.toList = headWords := by rw [head_text, String.toList_ofList]; exact head_words
theorem strip_head : stripLifts liftWords (behindMainWord headWords) = ([], behindMainWord headWords) := by kernel_rfl
theorem enters_of (P : Program) (h : wordsSigns P.initOrder.toList = headWords) (h1 : P.laysLater = false) (h2 : P.bearsReflect = false) (h3 : P.doorFits [] = true) : P.mayEnter = true := by
  have e : behindMainWord headWords = (List.map Char.ofNat [99, 117, 116]) :: (behindMainWord headWords).tail := by kernel_rfl
  have t := strip_head
  unfold Program.mayEnter; rw [h]
  rw [e] at t ⊢
  simp only [t, h1, h2, h3]
  decide +kernel
theorem makes_of (P : Program) (h : wordsSigns P.initOrder.toList = headWords) : P.make = some .cut := by
  unfold Program.make; rw [h]; kernel_rfl
theorem lifts_of (P : Program) (h : wordsSigns P.initOrder.toList = headWords) : P.liftsFinal = false := by
  unfold Program.liftsFinal Program.headLifts; rw [h]; kernel_rfl
theorem and_i {a b : Bool} (h : a = true) (g : b = true) : (a && b) = true := by rw [h, g]; rfl
theorem enters : Try.pinned.checked.prog.mayEnter = true := enters_of _ words (by kernel_rfl) (by kernel_rfl) (by kernel_rfl)
theorem makes : Try.pinned.checked.prog.make = some .cut := makes_of _ words
theorem lifts : Try.pinned.checked.prog.liftsFinal = false := lifts_of _ words
end Go.Proofs.Ytehpjofddjmbpaa
end
section
namespace Go.Proofs.Ytehpjofddjmbpaa
open Go Go.Proofs.Ytehpjofddjmbpaa.Ab
set_option linter.unusedVariables false
set_option linter.unusedSimpArgs false
set_option maxHeartbeats 4000000
abbrev P_c_sSameInts (A : List Int) (B : List Int) : Prop := CallOK Try.prog 228 [] [ll (A.map intC), ll (B.map intC)] [] (.sv (lb (decide (A = B))))
def Tc_sSameIntsLa (A : List Int) (B : List Int) (x0 : SV) : St := St.mk (regsOf 26 [(0, AV.sv (ll (List.map intC A))), (1, AV.sv (ll (List.map intC B))), (12, AV.sv (li
 (↑(List.length (List.map intC A)) : Int))), (13, AV.sv x0)]) [] 0 
def Lc_sSameIntsLa (A : List Int) (B : List Int) (k : Nat) : St := Tc_sSameIntsLa A B (li (↑k : Int)) 
def Ic_sSameIntsLa (A : List Int) (B : List Int) : Nat → St → Prop := Head (Lc_sSameIntsLa A B) (fun k => k ≤ List.length A ∧ List.length A ≤ 9223372036854775807 ∧ List.length A =
 List.length B ∧ List.take k A = List.take k B) fun k => List.length A - k 
def W0c_sSameIntsLa (A : List Int) (B : List Int) : St := St.mk (regsOf 26 []) [] 0 
def W1c_sSameIntsLa (A : List Int) (B : List Int) (x0 : SV) : St := St.mk (regsOf 26 [(4, AV.sv x0)]) [] 0 
def Yc_sSameIntsLa (A : List Int) (B : List Int) : List (Prop × AEx × St) := [(A = B, AEx.exit 0, W0c_sSameIntsLa A B), (A ≠ B, AEx.ret, W1c_sSameIntsLa A B (lb false))]
theorem Hc_sSameIntsLa {A : List Int} {B : List Int} {k : Nat} {m : Nat} (h : (fun k => k ≤ List.length A ∧ List.length A ≤ 9223372036854775807 ∧ List.length A = List.length B ∧
 List.take k A = List.take k B) k) (hm : (fun k => List.length A - k) k = m) : Ic_sSameIntsLa A B m (Lc_sSameIntsLa A B k) := hm ▸ Head.mk h
theorem Ec_sSameIntsLa {A : List Int} {B : List Int} {k : Nat} {x0 : SV} (h0 : x0 = (li (↑k : Int))) : Tc_sSameIntsLa A B x0 = Lc_sSameIntsLa A B k := by
  rw [h0]
  rfl
theorem EW1c_sSameIntsLa {A : List Int} {B : List Int} {x0 y0 : SV} (h0 : x0 = y0) : W1c_sSameIntsLa A B x0 = W1c_sSameIntsLa A B y0 := by rw [h0]
theorem run_c_sSameIntsLa (A : List Int) (B : List Int) (k : Nat) : aexec Try.prog (loopAt Try.f228 0) (Lc_sSameIntsLa A B k) [Orc.br [Orc.draw [], Orc.cells (intC (List.getD A k
 default)), Orc.cells (intC (List.getD B k default)), Orc.br [Orc.ghost (Ghost.sel [] [4]), Orc.out 1] [Orc.ghost (Ghost.sel [] [0, 1, 12, 13]), Orc.goto (List.length A - (k + 1))
 (Lc_sSameIntsLa A B (k + 1))]] [Orc.ghost (Ghost.sel [] []), Orc.out 0]] (loopK (Ic_sSameIntsLa A B) (Yc_sSameIntsLa A B) (List.length A - k)) = ((decide ((↑k : Int) <
 (↑(List.length (List.map intC A)) : Int)) = true → (0 ≤ (↑k : Int) ∧ (List.map intC A)[Int.toNat (↑k : Int)]? = some [cI (List.getD A k 0)]) ∧ (0 ≤ (↑k : Int) ∧ (List.map intC
 B)[Int.toNat (↑k : Int)]? = some [cI (List.getD B k 0)]) ∧ (decide (List.getD A k (0 : Int) ≠ List.getD B k 0) = true → A ≠ B ∧ W1c_sSameIntsLa A B (lb false) = W1c_sSameIntsLa A
 B (lb false)) ∧ (decide (List.getD A k (0 : Int) ≠ List.getD B k 0) = false → rng IntKind.i64 ((↑k : Int) + 1) ∧ List.length A - (k + 1) < List.length A - k ∧ Tc_sSameIntsLa A B
 (li ((↑k : Int) + 1)) = Lc_sSameIntsLa A B (k + 1) ∧ Ic_sSameIntsLa A B (List.length A - (k + 1)) (Lc_sSameIntsLa A B (k + 1)))) ∧ (decide ((↑k : Int) < (↑(List.length (List.map
 intC A)) : Int)) = false → A = B ∧ W0c_sSameIntsLa A B = W0c_sSameIntsLa A B)) := by kernel_rfl
theorem Sc_sSameIntsLa (A : List Int) (B : List Int)  : LoopSem Try.prog (loopAt Try.f228 0) (Ic_sSameIntsLa A B) (Yc_sSameIntsLa A B) := by
  refine LoopSem.ofHead wide fun k h => ⟨_, _, run_c_sSameIntsLa A B k, ?_⟩
  with_reducible repeat' (first | apply And.intro | exact flatI | exact flatS | exact rowLens | (intro; skip) | apply obsN | apply obsC | apply obA | apply obM | apply obB | apply svA | apply tupA | apply lcA | apply lcS | apply svC | apply liC | apply lbC | apply lsC | apply vIc | apply vBc | apply vSc | apply vLc | apply mapC | apply Hc_sSameIntsLa | apply Ec_sSameIntsLa | apply EW1c_sSameIntsLa)
  all_goals (try simp only [std] at *)
  all_goals (try (first | with_reducible rfl | omega | assumption | (refine (decide_eq_true ?_).symm; assumption) | (refine (decide_eq_false ?_).symm; assumption) | (refine rowGet ?_; (first | omega | (simp only [std]; omega) | grind)) | (refine getC ?_ rfl; (first | omega | (simp only [std]; omega) | grind)) | (refine fill_step ?_ ?_; (first | omega | (simp only [std]; omega) | grind); (first | rfl | exact (Row.eq _).trans rfl)) | (refine fill_init ?_; (first | rfl | exact (Row.eq _).trans rfl)) | grind [take_eq, snocI, snocS, rowSnoc]))
theorem run_c_sSameInts (A : List Int) (B : List Int) : aexec Try.prog (Option.getD (Func.body Try.f228) Code.skip) (entry [] [ll (List.map intC A), ll (List.map intC B)] 26)
 [Orc.br [Orc.fin []] [Orc.ghost (Ghost.sel [] [0, 1, 12, 13]), Orc.loop (List.length A - 0) (Lc_sSameIntsLa A B 0) (Ic_sSameIntsLa A B) [(A = B, AEx.exit 0, W0c_sSameIntsLa A B,
 [Orc.fin []]), (A ≠ B, AEx.ret, W1c_sSameIntsLa A B (lb false), [Orc.fin []])]]] (finK Try.prog [ResultVar.tmp 4] [] (AV.sv (lb (decide (A = B))))) = (List.length (List.map intC
 A) ≤ 9223372036854775807 → List.length (List.map intC B) ≤ 9223372036854775807 → (decide ((↑(List.length (List.map intC A)) : Int) ≠ (↑(List.length (List.map intC B)) : Int)) =
 true → ObsEq [] [] ∧ AV.sv (lb false) = AV.sv (lb (decide (A = B)))) ∧ (decide ((↑(List.length (List.map intC A)) : Int) ≠ (↑(List.length (List.map intC B)) : Int)) = false →
 List.length (List.map intC A) ≤ 9223372036854775807 → Tc_sSameIntsLa A B (li 0) = Lc_sSameIntsLa A B 0 ∧ Ic_sSameIntsLa A B (List.length A - 0) (Lc_sSameIntsLa A B 0) ∧ LoopSem
 Try.prog (loopAt Try.f228 0) (Ic_sSameIntsLa A B) (Yc_sSameIntsLa A B) ∧ (A = B → ObsEq [] [] ∧ AV.sv (lb true) = AV.sv (lb (decide (A = B)))) ∧ ((A = B → False) → ObsEq [] [] ∧
 AV.sv (lb false) = AV.sv (lb (decide (A = B)))) ∧ True)) := by kernel_rfl
theorem c_sSameInts (A B : List Int)  : P_c_sSameInts A B := by
  refine CallOK.ofRun wide (run_c_sSameInts A B) Try.call228 Try.func228 rfl rfl rfl ?_
  with_reducible repeat' (first | apply And.intro | exact flatI | exact flatS | exact rowLens | (intro; skip) | apply obsN | apply obsC | apply obA | apply obM | apply obB | apply svA | apply tupA | apply lcA | apply lcS | apply svC | apply liC | apply lbC | apply lsC | apply vIc | apply vBc | apply vSc | apply vLc | apply mapC | apply Hc_sSameIntsLa | apply Ec_sSameIntsLa | apply Sc_sSameIntsLa | apply EW1c_sSameIntsLa)
  all_goals (try simp only [std] at *)
  all_goals (try (first | with_reducible rfl | omega | assumption | (refine (decide_eq_true ?_).symm; assumption) | (refine (decide_eq_false ?_).symm; assumption) | (refine rowGet ?_; (first | omega | (simp only [std]; omega) | grind)) | (refine getC ?_ rfl; (first | omega | (simp only [std]; omega) | grind)) | (refine fill_step ?_ ?_; (first | omega | (simp only [std]; omega) | grind); (first | rfl | exact (Row.eq _).trans rfl)) | (refine fill_init ?_; (first | rfl | exact (Row.eq _).trans rfl)) | grind [snocI, snocS, rowSnoc]))
abbrev P_c_sEqSyntax (x : Syntax) (y : Syntax) : Prop := CallOK Try.prog 273 [] [syntaxA x, syntaxA y] [] (.sv (lb (decide (x = y))))
def Tc_sEqSyntax_sLa (x : Syntax) (y : Syntax) (x0 : SV) : St := St.mk (regsOf 61 [(2, AV.sv (SV.one (AC.ptr 0 0))), (3, AV.sv (SV.one (AC.ptr 1 0))), (44, AV.sv (li (↑(List.length
 (List.map syntaxC (Syntax.items x))) : Int))), (45, AV.sv x0)]) [Ob.box (vals (syntaxF x)), Ob.box (vals (syntaxF y))] 0 
def Lc_sEqSyntax_sLa (x : Syntax) (y : Syntax) (k : Nat) : St := Tc_sEqSyntax_sLa x y (li (↑k : Int)) 
def Ic_sEqSyntax_sLa (x : Syntax) (y : Syntax) : Nat → St → Prop := Head (Lc_sEqSyntax_sLa x y) (fun k => k ≤ List.length (Syntax.items x) ∧ List.length (Syntax.items x) ≤
 9223372036854775807 ∧ List.length (Syntax.items x) = List.length (Syntax.items y) ∧ List.take k (Syntax.items x) = List.take k (Syntax.items y)) fun k => List.length (Syntax.items
 x) - k 
def W0c_sEqSyntax_sLa (x : Syntax) (y : Syntax) : St := St.mk (regsOf 61 []) [] 0 
def W1c_sEqSyntax_sLa (x : Syntax) (y : Syntax) (x0 : SV) : St := St.mk (regsOf 61 [(4, AV.sv x0)]) [] 0 
def Yc_sEqSyntax_sLa (x : Syntax) (y : Syntax) : List (Prop × AEx × St) := [(Syntax.items x = Syntax.items y, AEx.exit 0, W0c_sEqSyntax_sLa x y), (Syntax.items x ≠ Syntax.items y,
 AEx.ret, W1c_sEqSyntax_sLa x y (lb false))]
theorem Hc_sEqSyntax_sLa {x : Syntax} {y : Syntax} {k : Nat} {m : Nat} (h : (fun k => k ≤ List.length (Syntax.items x) ∧ List.length (Syntax.items x) ≤ 9223372036854775807 ∧
 List.length (Syntax.items x) = List.length (Syntax.items y) ∧ List.take k (Syntax.items x) = List.take k (Syntax.items y)) k) (hm : (fun k => List.length (Syntax.items x) - k) k =
 m) : Ic_sEqSyntax_sLa x y m (Lc_sEqSyntax_sLa x y k) := hm ▸ Head.mk h
theorem Ec_sEqSyntax_sLa {x : Syntax} {y : Syntax} {k : Nat} {x0 : SV} (h0 : x0 = (li (↑k : Int))) : Tc_sEqSyntax_sLa x y x0 = Lc_sEqSyntax_sLa x y k := by
  rw [h0]
  rfl
theorem EW1c_sEqSyntax_sLa {x : Syntax} {y : Syntax} {x0 y0 : SV} (h0 : x0 = y0) : W1c_sEqSyntax_sLa x y x0 = W1c_sEqSyntax_sLa x y y0 := by rw [h0]
theorem run_c_sEqSyntax_sLa (x : Syntax) (y : Syntax) (k : Nat) : aexec Try.prog (loopAt Try.f273 0) (Lc_sEqSyntax_sLa x y k) [Orc.br [Orc.draw [], Orc.cells (syntaxF (List.getD
 (Syntax.items x) k default)), Orc.cells (syntaxF (List.getD (Syntax.items y) k default)), Orc.call [Mode.rd, Mode.rd] [] (AV.sv (lb (decide (List.getD (Syntax.items x) k default =
 List.getD (Syntax.items y) k default)))), Orc.br [Orc.ghost (Ghost.sel [] [4]), Orc.out 1] [Orc.ghost (Ghost.sel [0, 1] [2, 3, 44, 45]), Orc.goto (List.length (Syntax.items x) -
 (k + 1)) (Lc_sEqSyntax_sLa x y (k + 1))]] [Orc.ghost (Ghost.sel [] []), Orc.out 0]] (loopK (Ic_sEqSyntax_sLa x y) (Yc_sEqSyntax_sLa x y) (List.length (Syntax.items x) - k)) =
 ((decide ((↑k : Int) < (↑(List.length (List.map syntaxC (Syntax.items x))) : Int)) = true → (0 ≤ (↑k : Int) ∧ (List.map syntaxC (Syntax.items x))[Int.toNat (↑k : Int)]? = some
 (syntaxF (List.getD (Syntax.items x) k default))) ∧ (0 ≤ (↑k : Int) ∧ (List.map syntaxC (Syntax.items y))[Int.toNat (↑k : Int)]? = some (syntaxF (List.getD (Syntax.items y) k
 default))) ∧ P_c_sEqSyntax (List.getD (Syntax.items x) k default) (List.getD (Syntax.items y) k default) ∧ ((!decide (List.getD (Syntax.items x) k default = List.getD
 (Syntax.items y) k default)) = true → Syntax.items x ≠ Syntax.items y ∧ W1c_sEqSyntax_sLa x y (lb false) = W1c_sEqSyntax_sLa x y (lb false)) ∧ ((!decide (List.getD (Syntax.items
 x) k default = List.getD (Syntax.items y) k default)) = false → rng IntKind.i64 ((↑k : Int) + 1) ∧ List.length (Syntax.items x) - (k + 1) < List.length (Syntax.items x) - k ∧
 Tc_sEqSyntax_sLa x y (li ((↑k : Int) + 1)) = Lc_sEqSyntax_sLa x y (k + 1) ∧ Ic_sEqSyntax_sLa x y (List.length (Syntax.items x) - (k + 1)) (Lc_sEqSyntax_sLa x y (k + 1)))) ∧
 (decide ((↑k : Int) < (↑(List.length (List.map syntaxC (Syntax.items x))) : Int)) = false → Syntax.items x = Syntax.items y ∧ W0c_sEqSyntax_sLa x y = W0c_sEqSyntax_sLa x y)) := by
 kernel_rfl
theorem Sc_sEqSyntax_sLa (x : Syntax) (y : Syntax) (ih : ∀ (z : Syntax), z ∈ Syntax.items x → ∀ (y : Syntax), P_c_sEqSyntax z y)  : LoopSem Try.prog (loopAt Try.f273 0)
 (Ic_sEqSyntax_sLa x y) (Yc_sEqSyntax_sLa x y) := by
  refine LoopSem.ofHead wide fun k h => ⟨_, _, run_c_sEqSyntax_sLa x y k, ?_⟩
  with_reducible repeat' (first | apply And.intro | exact flatI | exact flatS | exact rowLens | exact ih | (intro; skip) | apply obsN | apply obsC | apply obA | apply obM | apply obB | apply svA | apply tupA | apply lcA | apply lcS | apply svC | apply liC | apply lbC | apply lsC | apply vIc | apply vBc | apply vSc | apply vLc | apply mapC | apply Hc_sEqSyntax_sLa | apply Ec_sEqSyntax_sLa | apply EW1c_sEqSyntax_sLa | apply c_sSameInts | apply ih)
  all_goals (try simp only [std] at *)
  all_goals (try (first | with_reducible rfl | omega | assumption | (refine (decide_eq_true ?_).symm; assumption) | (refine (decide_eq_false ?_).symm; assumption) | (refine rowGet ?_; (first | omega | (simp only [std]; omega) | grind)) | (refine getC ?_ rfl; (first | omega | (simp only [std]; omega) | grind)) | (refine fill_step ?_ ?_; (first | omega | (simp only [std]; omega) | grind); (first | rfl | exact (Row.eq _).trans rfl)) | (refine fill_init ?_; (first | rfl | exact (Row.eq _).trans rfl)) | grind [take_eq, getD_mem', snocI, snocS, rowSnoc]))
theorem run_c_sEqSyntax_s (x : Syntax) (y : Syntax) : aexec Try.prog (Option.getD (Func.body Try.f273) Code.skip) (entry [] [syntaxA x, syntaxA y] 61) [Orc.br [Orc.bool true,
 Orc.bool true, Orc.bool true, Orc.bool true, Orc.fin []] [Orc.br [Orc.bool true, Orc.bool true, Orc.bool true, Orc.fin []] [Orc.br [Orc.bool true, Orc.bool true, Orc.fin []]
 [Orc.call [Mode.rd, Mode.rd] [] (AV.sv (lb (decide (Syntax.scopes x = Syntax.scopes y)))), Orc.br [Orc.bool true, Orc.fin []] [Orc.br [Orc.fin []] [Orc.ghost (Ghost.sel [0, 1] [2,
 3, 44, 45]), Orc.loop (List.length (Syntax.items x) - 0) (Lc_sEqSyntax_sLa x y 0) (Ic_sEqSyntax_sLa x y) [(Syntax.items x = Syntax.items y, AEx.exit 0, W0c_sEqSyntax_sLa x y,
 [Orc.fin []]), (Syntax.items x ≠ Syntax.items y, AEx.ret, W1c_sEqSyntax_sLa x y (lb false), [Orc.fin []])]]]]]]] (finK Try.prog [ResultVar.tmp 4] [] (AV.sv (lb (decide (x = y)))))
 = ((decide (Syntax.kind x ≠ Syntax.kind y) = true → true = true ∧ true = true ∧ true = true ∧ true = true ∧ ObsEq [] [] ∧ AV.sv (lb false) = AV.sv (lb (decide (x = y)))) ∧ (decide
 (Syntax.kind x ≠ Syntax.kind y) = false → (decide (Syntax.number x ≠ Syntax.number y) = true → true = true ∧ true = true ∧ true = true ∧ ObsEq [] [] ∧ AV.sv (lb false) = AV.sv (lb
 (decide (x = y)))) ∧ (decide (Syntax.number x ≠ Syntax.number y) = false → (decide (Array.toList (ByteArray.data (Syntax.text x)) ≠ Array.toList (ByteArray.data (Syntax.text y)))
 = true → true = true ∧ true = true ∧ ObsEq [] [] ∧ AV.sv (lb false) = AV.sv (lb (decide (x = y)))) ∧ (decide (Array.toList (ByteArray.data (Syntax.text x)) ≠ Array.toList
 (ByteArray.data (Syntax.text y))) = false → P_c_sSameInts (Syntax.scopes x) (Syntax.scopes y) ∧ ((!decide (Syntax.scopes x = Syntax.scopes y)) = true → true = true ∧ ObsEq [] [] ∧
 AV.sv (lb false) = AV.sv (lb (decide (x = y)))) ∧ ((!decide (Syntax.scopes x = Syntax.scopes y)) = false → List.length (List.map syntaxC (Syntax.items x)) ≤ 9223372036854775807 →
 List.length (List.map syntaxC (Syntax.items y)) ≤ 9223372036854775807 → (decide ((↑(List.length (List.map syntaxC (Syntax.items x))) : Int) ≠ (↑(List.length (List.map syntaxC
 (Syntax.items y))) : Int)) = true → ObsEq [] [] ∧ AV.sv (lb false) = AV.sv (lb (decide (x = y)))) ∧ (decide ((↑(List.length (List.map syntaxC (Syntax.items x))) : Int) ≠
 (↑(List.length (List.map syntaxC (Syntax.items y))) : Int)) = false → List.length (List.map syntaxC (Syntax.items x)) ≤ 9223372036854775807 → Tc_sEqSyntax_sLa x y (li 0) =
 Lc_sEqSyntax_sLa x y 0 ∧ Ic_sEqSyntax_sLa x y (List.length (Syntax.items x) - 0) (Lc_sEqSyntax_sLa x y 0) ∧ LoopSem Try.prog (loopAt Try.f273 0) (Ic_sEqSyntax_sLa x y)
 (Yc_sEqSyntax_sLa x y) ∧ (Syntax.items x = Syntax.items y → ObsEq [] [] ∧ AV.sv (lb true) = AV.sv (lb (decide (x = y)))) ∧ ((Syntax.items x = Syntax.items y → False) → ObsEq [] []
 ∧ AV.sv (lb false) = AV.sv (lb (decide (x = y)))) ∧ True)))))) := by kernel_rfl
theorem c_sEqSyntax_s (x y : Syntax) (ih : ∀ z ∈ x.items, ∀ (y : Syntax), P_c_sEqSyntax z y)  : P_c_sEqSyntax x y := by
  refine CallOK.ofRun wide (run_c_sEqSyntax_s x y) Try.call273 Try.func273 rfl rfl rfl ?_
  simp only [syntaxExt]
  with_reducible repeat' (first | apply And.intro | exact flatI | exact flatS | exact rowLens | exact ih | (intro; skip) | apply obsN | apply obsC | apply obA | apply obM | apply obB | apply svA | apply tupA | apply lcA | apply lcS | apply svC | apply liC | apply lbC | apply lsC | apply vIc | apply vBc | apply vSc | apply vLc | apply mapC | apply Hc_sEqSyntax_sLa | apply Ec_sEqSyntax_sLa | apply Sc_sEqSyntax_sLa | apply EW1c_sEqSyntax_sLa | apply c_sSameInts)
  all_goals (try simp only [std] at *)
  all_goals (try (first | with_reducible rfl | omega | assumption | (refine (decide_eq_true ?_).symm; assumption) | (refine (decide_eq_false ?_).symm; assumption) | (refine rowGet ?_; (first | omega | (simp only [std]; omega) | grind)) | (refine getC ?_ rfl; (first | omega | (simp only [std]; omega) | grind)) | (refine fill_step ?_ ?_; (first | omega | (simp only [std]; omega) | grind); (first | rfl | exact (Row.eq _).trans rfl)) | (refine fill_init ?_; (first | rfl | exact (Row.eq _).trans rfl)) | grind [bytes_ext, snocI, snocS, rowSnoc]))
theorem c_sEqSyntax (x : Syntax) : ∀ (y : Syntax), P_c_sEqSyntax x y := Syntax.ind (P := fun x => ∀ (y : Syntax), P_c_sEqSyntax x y) (fun x ih y => c_sEqSyntax_s x y ih) x
abbrev P_c_sEqSyntaxes (A : List Syntax) (B : List Syntax) : Prop := CallOK Try.prog 229 [] [ll (A.map syntaxC), ll (B.map syntaxC)] [] (.sv (lb (decide (A = B))))
def Tc_sEqSyntaxesLa (A : List Syntax) (B : List Syntax) (x0 : SV) : St := St.mk (regsOf 27 [(0, AV.sv (ll (List.map syntaxC A))), (1, AV.sv (ll (List.map syntaxC B))), (12, AV.sv
 (li (↑(List.length (List.map syntaxC A)) : Int))), (13, AV.sv x0)]) [] 0 
def Lc_sEqSyntaxesLa (A : List Syntax) (B : List Syntax) (k : Nat) : St := Tc_sEqSyntaxesLa A B (li (↑k : Int)) 
def Ic_sEqSyntaxesLa (A : List Syntax) (B : List Syntax) : Nat → St → Prop := Head (Lc_sEqSyntaxesLa A B) (fun k => k ≤ List.length A ∧ List.length A ≤ 9223372036854775807 ∧
 List.length A = List.length B ∧ List.take k A = List.take k B) fun k => List.length A - k 
def W0c_sEqSyntaxesLa (A : List Syntax) (B : List Syntax) : St := St.mk (regsOf 27 []) [] 0 
def W1c_sEqSyntaxesLa (A : List Syntax) (B : List Syntax) (x0 : SV) : St := St.mk (regsOf 27 [(4, AV.sv x0)]) [] 0 
def Yc_sEqSyntaxesLa (A : List Syntax) (B : List Syntax) : List (Prop × AEx × St) := [(A = B, AEx.exit 0, W0c_sEqSyntaxesLa A B), (A ≠ B, AEx.ret, W1c_sEqSyntaxesLa A B (lb
 false))]
theorem Hc_sEqSyntaxesLa {A : List Syntax} {B : List Syntax} {k : Nat} {m : Nat} (h : (fun k => k ≤ List.length A ∧ List.length A ≤ 9223372036854775807 ∧ List.length A =
 List.length B ∧ List.take k A = List.take k B) k) (hm : (fun k => List.length A - k) k = m) : Ic_sEqSyntaxesLa A B m (Lc_sEqSyntaxesLa A B k) := hm ▸ Head.mk h
theorem Ec_sEqSyntaxesLa {A : List Syntax} {B : List Syntax} {k : Nat} {x0 : SV} (h0 : x0 = (li (↑k : Int))) : Tc_sEqSyntaxesLa A B x0 = Lc_sEqSyntaxesLa A B k := by
  rw [h0]
  rfl
theorem EW1c_sEqSyntaxesLa {A : List Syntax} {B : List Syntax} {x0 y0 : SV} (h0 : x0 = y0) : W1c_sEqSyntaxesLa A B x0 = W1c_sEqSyntaxesLa A B y0 := by rw [h0]
theorem run_c_sEqSyntaxesLa (A : List Syntax) (B : List Syntax) (k : Nat) : aexec Try.prog (loopAt Try.f229 0) (Lc_sEqSyntaxesLa A B k) [Orc.br [Orc.draw [], Orc.cells (syntaxF
 (List.getD A k default)), Orc.cells (syntaxF (List.getD B k default)), Orc.call [Mode.rd, Mode.rd] [] (AV.sv (lb (decide (List.getD A k default = List.getD B k default)))), Orc.br
 [Orc.ghost (Ghost.sel [] [4]), Orc.out 1] [Orc.ghost (Ghost.sel [] [0, 1, 12, 13]), Orc.goto (List.length A - (k + 1)) (Lc_sEqSyntaxesLa A B (k + 1))]] [Orc.ghost (Ghost.sel []
 []), Orc.out 0]] (loopK (Ic_sEqSyntaxesLa A B) (Yc_sEqSyntaxesLa A B) (List.length A - k)) = ((decide ((↑k : Int) < (↑(List.length (List.map syntaxC A)) : Int)) = true → (0 ≤ (↑k
 : Int) ∧ (List.map syntaxC A)[Int.toNat (↑k : Int)]? = some (syntaxF (List.getD A k default))) ∧ (0 ≤ (↑k : Int) ∧ (List.map syntaxC B)[Int.toNat (↑k : Int)]? = some (syntaxF
 (List.getD B k default))) ∧ P_c_sEqSyntax (List.getD A k default) (List.getD B k default) ∧ ((!decide (List.getD A k default = List.getD B k default)) = true → A ≠ B ∧
 W1c_sEqSyntaxesLa A B (lb false) = W1c_sEqSyntaxesLa A B (lb false)) ∧ ((!decide (List.getD A k default = List.getD B k default)) = false → rng IntKind.i64 ((↑k : Int) + 1) ∧
 List.length A - (k + 1) < List.length A - k ∧ Tc_sEqSyntaxesLa A B (li ((↑k : Int) + 1)) = Lc_sEqSyntaxesLa A B (k + 1) ∧ Ic_sEqSyntaxesLa A B (List.length A - (k + 1))
 (Lc_sEqSyntaxesLa A B (k + 1)))) ∧ (decide ((↑k : Int) < (↑(List.length (List.map syntaxC A)) : Int)) = false → A = B ∧ W0c_sEqSyntaxesLa A B = W0c_sEqSyntaxesLa A B)) := by
 kernel_rfl
theorem Sc_sEqSyntaxesLa (A : List Syntax) (B : List Syntax)  : LoopSem Try.prog (loopAt Try.f229 0) (Ic_sEqSyntaxesLa A B) (Yc_sEqSyntaxesLa A B) := by
  refine LoopSem.ofHead wide fun k h => ⟨_, _, run_c_sEqSyntaxesLa A B k, ?_⟩
  with_reducible repeat' (first | apply And.intro | exact flatI | exact flatS | exact rowLens | (intro; skip) | apply obsN | apply obsC | apply obA | apply obM | apply obB | apply svA | apply tupA | apply lcA | apply lcS | apply svC | apply liC | apply lbC | apply lsC | apply vIc | apply vBc | apply vSc | apply vLc | apply mapC | apply Hc_sEqSyntaxesLa | apply Ec_sEqSyntaxesLa | apply EW1c_sEqSyntaxesLa | apply c_sEqSyntax)
  all_goals (try simp only [std] at *)
  all_goals (try (first | with_reducible rfl | omega | assumption | (refine (decide_eq_true ?_).symm; assumption) | (refine (decide_eq_false ?_).symm; assumption) | (refine rowGet ?_; (first | omega | (simp only [std]; omega) | grind)) | (refine getC ?_ rfl; (first | omega | (simp only [std]; omega) | grind)) | (refine fill_step ?_ ?_; (first | omega | (simp only [std]; omega) | grind); (first | rfl | exact (Row.eq _).trans rfl)) | (refine fill_init ?_; (first | rfl | exact (Row.eq _).trans rfl)) | grind [take_eq, snocI, snocS, rowSnoc]))
theorem run_c_sEqSyntaxes (A : List Syntax) (B : List Syntax) : aexec Try.prog (Option.getD (Func.body Try.f229) Code.skip) (entry [] [ll (List.map syntaxC A), ll (List.map syntaxC
 B)] 27) [Orc.br [Orc.fin []] [Orc.ghost (Ghost.sel [] [0, 1, 12, 13]), Orc.loop (List.length A - 0) (Lc_sEqSyntaxesLa A B 0) (Ic_sEqSyntaxesLa A B) [(A = B, AEx.exit 0,
 W0c_sEqSyntaxesLa A B, [Orc.fin []]), (A ≠ B, AEx.ret, W1c_sEqSyntaxesLa A B (lb false), [Orc.fin []])]]] (finK Try.prog [ResultVar.tmp 4] [] (AV.sv (lb (decide (A = B))))) =
 (List.length (List.map syntaxC A) ≤ 9223372036854775807 → List.length (List.map syntaxC B) ≤ 9223372036854775807 → (decide ((↑(List.length (List.map syntaxC A)) : Int) ≠
 (↑(List.length (List.map syntaxC B)) : Int)) = true → ObsEq [] [] ∧ AV.sv (lb false) = AV.sv (lb (decide (A = B)))) ∧ (decide ((↑(List.length (List.map syntaxC A)) : Int) ≠
 (↑(List.length (List.map syntaxC B)) : Int)) = false → List.length (List.map syntaxC A) ≤ 9223372036854775807 → Tc_sEqSyntaxesLa A B (li 0) = Lc_sEqSyntaxesLa A B 0 ∧
 Ic_sEqSyntaxesLa A B (List.length A - 0) (Lc_sEqSyntaxesLa A B 0) ∧ LoopSem Try.prog (loopAt Try.f229 0) (Ic_sEqSyntaxesLa A B) (Yc_sEqSyntaxesLa A B) ∧ (A = B → ObsEq [] [] ∧
 AV.sv (lb true) = AV.sv (lb (decide (A = B)))) ∧ ((A = B → False) → ObsEq [] [] ∧ AV.sv (lb false) = AV.sv (lb (decide (A = B)))) ∧ True)) := by kernel_rfl
theorem c_sEqSyntaxes (A B : List Syntax)  : P_c_sEqSyntaxes A B := by
  refine CallOK.ofRun wide (run_c_sEqSyntaxes A B) Try.call229 Try.func229 rfl rfl rfl ?_
  with_reducible repeat' (first | apply And.intro | exact flatI | exact flatS | exact rowLens | (intro; skip) | apply obsN | apply obsC | apply obA | apply obM | apply obB | apply svA | apply tupA | apply lcA | apply lcS | apply svC | apply liC | apply lbC | apply lsC | apply vIc | apply vBc | apply vSc | apply vLc | apply mapC | apply Hc_sEqSyntaxesLa | apply Ec_sEqSyntaxesLa | apply Sc_sEqSyntaxesLa | apply EW1c_sEqSyntaxesLa | apply c_sEqSyntax)
  all_goals (try simp only [std] at *)
  all_goals (try (first | with_reducible rfl | omega | assumption | (refine (decide_eq_true ?_).symm; assumption) | (refine (decide_eq_false ?_).symm; assumption) | (refine rowGet ?_; (first | omega | (simp only [std]; omega) | grind)) | (refine getC ?_ rfl; (first | omega | (simp only [std]; omega) | grind)) | (refine fill_step ?_ ?_; (first | omega | (simp only [std]; omega) | grind); (first | rfl | exact (Row.eq _).trans rfl)) | (refine fill_init ?_; (first | rfl | exact (Row.eq _).trans rfl)) | grind [snocI, snocS, rowSnoc]))
abbrev P_c_sEqBindings (A : List Binding) (B : List Binding) : Prop := CallOK Try.prog 134 [] [ll (A.map bindingC), ll (B.map bindingC)] [] (.sv (lb (decide (A = B))))
def Tc_sEqBindingsLa (A : List Binding) (B : List Binding) (x0 : SV) : St := St.mk (regsOf 68 [(0, AV.sv (ll (List.map bindingC A))), (1, AV.sv (ll (List.map bindingC B))), (12,
 AV.sv (li (↑(List.length (List.map bindingC A)) : Int))), (13, AV.sv x0)]) [] 0 
def Lc_sEqBindingsLa (A : List Binding) (B : List Binding) (k : Nat) : St := Tc_sEqBindingsLa A B (li (↑k : Int)) 
def Ic_sEqBindingsLa (A : List Binding) (B : List Binding) : Nat → St → Prop := Head (Lc_sEqBindingsLa A B) (fun k => k ≤ List.length A ∧ List.length A ≤ 9223372036854775807 ∧
 List.length A = List.length B ∧ List.take k A = List.take k B) fun k => List.length A - k 
def W0c_sEqBindingsLa (A : List Binding) (B : List Binding) : St := St.mk (regsOf 68 []) [] 0 
def W1c_sEqBindingsLa (A : List Binding) (B : List Binding) (x0 : SV) : St := St.mk (regsOf 68 [(4, AV.sv x0)]) [] 0 
def Yc_sEqBindingsLa (A : List Binding) (B : List Binding) : List (Prop × AEx × St) := [(A = B, AEx.exit 0, W0c_sEqBindingsLa A B), (A ≠ B, AEx.ret, W1c_sEqBindingsLa A B (lb
 false))]
theorem Hc_sEqBindingsLa {A : List Binding} {B : List Binding} {k : Nat} {m : Nat} (h : (fun k => k ≤ List.length A ∧ List.length A ≤ 9223372036854775807 ∧ List.length A =
 List.length B ∧ List.take k A = List.take k B) k) (hm : (fun k => List.length A - k) k = m) : Ic_sEqBindingsLa A B m (Lc_sEqBindingsLa A B k) := hm ▸ Head.mk h
theorem Ec_sEqBindingsLa {A : List Binding} {B : List Binding} {k : Nat} {x0 : SV} (h0 : x0 = (li (↑k : Int))) : Tc_sEqBindingsLa A B x0 = Lc_sEqBindingsLa A B k := by
  rw [h0]
  rfl
theorem EW1c_sEqBindingsLa {A : List Binding} {B : List Binding} {x0 y0 : SV} (h0 : x0 = y0) : W1c_sEqBindingsLa A B x0 = W1c_sEqBindingsLa A B y0 := by rw [h0]
abbrev a1__sEqBindingsLa (A : List Binding) (k : Nat) := (0 ≤ (↑k : Int) ∧ (List.map bindingC A)[Int.toNat (↑k : Int)]? = some (bindingF (List.getD A k default)))
abbrev a2__sEqBindingsLa (B : List Binding) (k : Nat) := (0 ≤ (↑k : Int) ∧ (List.map bindingC B)[Int.toNat (↑k : Int)]? = some (bindingF (List.getD B k default)))
theorem run_c_sEqBindingsLa (A : List Binding) (B : List Binding) (k : Nat) : aexec Try.prog (loopAt Try.f134 0) (Lc_sEqBindingsLa A B k) [Orc.br [Orc.draw [], Orc.cells (bindingF
 (List.getD A k default)), Orc.cells (bindingF (List.getD B k default)), Orc.br [Orc.bool true, Orc.bool true, Orc.bool true, Orc.ghost (Ghost.sel [] [4]), Orc.out 1] [Orc.cells
 (bindingF (List.getD A k default)), Orc.cells (bindingF (List.getD B k default)), Orc.call [Mode.rd, Mode.rd] [] (AV.sv (lb (decide (Binding.scopes (List.getD A k default) =
 Binding.scopes (List.getD B k default))))), Orc.br [Orc.bool true, Orc.bool true, Orc.ghost (Ghost.sel [] [4]), Orc.out 1] [Orc.cells (bindingF (List.getD A k default)), Orc.cells
 (bindingF (List.getD B k default)), Orc.br [Orc.bool true, Orc.ghost (Ghost.sel [] [4]), Orc.out 1] [Orc.cells (bindingF (List.getD A k default)), Orc.cells (bindingF (List.getD B
 k default)), Orc.br [Orc.ghost (Ghost.sel [] [4]), Orc.out 1] [Orc.ghost (Ghost.sel [] [0, 1, 12, 13]), Orc.goto (List.length A - (k + 1)) (Lc_sEqBindingsLa A B (k + 1))]]]]]
 [Orc.ghost (Ghost.sel [] []), Orc.out 0]] (loopK (Ic_sEqBindingsLa A B) (Yc_sEqBindingsLa A B) (List.length A - k)) = ((decide ((↑k : Int) < (↑(List.length (List.map bindingC A))
 : Int)) = true → (a1__sEqBindingsLa A k) ∧ (a2__sEqBindingsLa B k) ∧ (decide (Array.toList (ByteArray.data (Binding.text (List.getD A k default))) ≠ Array.toList (ByteArray.data
 (Binding.text (List.getD B k default)))) = true → true = true ∧ true = true ∧ true = true ∧ A ≠ B ∧ W1c_sEqBindingsLa A B (lb false) = W1c_sEqBindingsLa A B (lb false)) ∧ (decide
 (Array.toList (ByteArray.data (Binding.text (List.getD A k default))) ≠ Array.toList (ByteArray.data (Binding.text (List.getD B k default)))) = false → (a1__sEqBindingsLa A k) ∧
 (a2__sEqBindingsLa B k) ∧ P_c_sSameInts (Binding.scopes (List.getD A k default)) (Binding.scopes (List.getD B k default)) ∧ ((!decide (Binding.scopes (List.getD A k default) =
 Binding.scopes (List.getD B k default))) = true → true = true ∧ true = true ∧ A ≠ B ∧ W1c_sEqBindingsLa A B (lb false) = W1c_sEqBindingsLa A B (lb false)) ∧ ((!decide
 (Binding.scopes (List.getD A k default) = Binding.scopes (List.getD B k default))) = false → (a1__sEqBindingsLa A k) ∧ (a2__sEqBindingsLa B k) ∧ (decide (Binding.kind (List.getD A
 k default) ≠ Binding.kind (List.getD B k default)) = true → true = true ∧ A ≠ B ∧ W1c_sEqBindingsLa A B (lb false) = W1c_sEqBindingsLa A B (lb false)) ∧ (decide (Binding.kind
 (List.getD A k default) ≠ Binding.kind (List.getD B k default)) = false → (a1__sEqBindingsLa A k) ∧ (a2__sEqBindingsLa B k) ∧ (decide (Binding.number (List.getD A k default) ≠
 Binding.number (List.getD B k default)) = true → A ≠ B ∧ W1c_sEqBindingsLa A B (lb false) = W1c_sEqBindingsLa A B (lb false)) ∧ (decide (Binding.number (List.getD A k default) ≠
 Binding.number (List.getD B k default)) = false → rng IntKind.i64 ((↑k : Int) + 1) ∧ List.length A - (k + 1) < List.length A - k ∧ Tc_sEqBindingsLa A B (li ((↑k : Int) + 1)) =
 Lc_sEqBindingsLa A B (k + 1) ∧ Ic_sEqBindingsLa A B (List.length A - (k + 1)) (Lc_sEqBindingsLa A B (k + 1))))))) ∧ (decide ((↑k : Int) < (↑(List.length (List.map bindingC A)) :
 Int)) = false → A = B ∧ W0c_sEqBindingsLa A B = W0c_sEqBindingsLa A B)) := by kernel_rfl
theorem Sc_sEqBindingsLa (A : List Binding) (B : List Binding)  : LoopSem Try.prog (loopAt Try.f134 0) (Ic_sEqBindingsLa A B) (Yc_sEqBindingsLa A B) := by
  refine LoopSem.ofHead wide fun k h => ⟨_, _, run_c_sEqBindingsLa A B k, ?_⟩
  try delta a1__sEqBindingsLa a2__sEqBindingsLa
  with_reducible repeat' (first | apply And.intro | exact flatI | exact flatS | exact rowLens | (intro; skip) | apply obsN | apply obsC | apply obA | apply obM | apply obB | apply svA | apply tupA | apply lcA | apply lcS | apply svC | apply liC | apply lbC | apply lsC | apply vIc | apply vBc | apply vSc | apply vLc | apply mapC | apply Hc_sEqBindingsLa | apply Ec_sEqBindingsLa | apply EW1c_sEqBindingsLa | apply c_sSameInts)
  all_goals (try simp only [std] at *)
  all_goals (try (first | with_reducible rfl | omega | assumption | (refine (decide_eq_true ?_).symm; assumption) | (refine (decide_eq_false ?_).symm; assumption) | (refine rowGet ?_; (first | omega | (simp only [std]; omega) | grind)) | (refine getC ?_ rfl; (first | omega | (simp only [std]; omega) | grind)) | (refine fill_step ?_ ?_; (first | omega | (simp only [std]; omega) | grind); (first | rfl | exact (Row.eq _).trans rfl)) | (refine fill_init ?_; (first | rfl | exact (Row.eq _).trans rfl)) | grind [take_eq, bindingExt, bytes_ext, snocI, snocS, rowSnoc]))
theorem run_c_sEqBindings (A : List Binding) (B : List Binding) : aexec Try.prog (Option.getD (Func.body Try.f134) Code.skip) (entry [] [ll (List.map bindingC A), ll (List.map
 bindingC B)] 68) [Orc.br [Orc.fin []] [Orc.ghost (Ghost.sel [] [0, 1, 12, 13]), Orc.loop (List.length A - 0) (Lc_sEqBindingsLa A B 0) (Ic_sEqBindingsLa A B) [(A = B, AEx.exit 0,
 W0c_sEqBindingsLa A B, [Orc.fin []]), (A ≠ B, AEx.ret, W1c_sEqBindingsLa A B (lb false), [Orc.fin []])]]] (finK Try.prog [ResultVar.tmp 4] [] (AV.sv (lb (decide (A = B))))) =
 (List.length (List.map bindingC A) ≤ 9223372036854775807 → List.length (List.map bindingC B) ≤ 9223372036854775807 → (decide ((↑(List.length (List.map bindingC A)) : Int) ≠
 (↑(List.length (List.map bindingC B)) : Int)) = true → ObsEq [] [] ∧ AV.sv (lb false) = AV.sv (lb (decide (A = B)))) ∧ (decide ((↑(List.length (List.map bindingC A)) : Int) ≠
 (↑(List.length (List.map bindingC B)) : Int)) = false → List.length (List.map bindingC A) ≤ 9223372036854775807 → Tc_sEqBindingsLa A B (li 0) = Lc_sEqBindingsLa A B 0 ∧
 Ic_sEqBindingsLa A B (List.length A - 0) (Lc_sEqBindingsLa A B 0) ∧ LoopSem Try.prog (loopAt Try.f134 0) (Ic_sEqBindingsLa A B) (Yc_sEqBindingsLa A B) ∧ (A = B → ObsEq [] [] ∧
 AV.sv (lb true) = AV.sv (lb (decide (A = B)))) ∧ ((A = B → False) → ObsEq [] [] ∧ AV.sv (lb false) = AV.sv (lb (decide (A = B)))) ∧ True)) := by kernel_rfl
theorem c_sEqBindings (A B : List Binding)  : P_c_sEqBindings A B := by
  refine CallOK.ofRun wide (run_c_sEqBindings A B) Try.call134 Try.func134 rfl rfl rfl ?_
  with_reducible repeat' (first | apply And.intro | exact flatI | exact flatS | exact rowLens | (intro; skip) | apply obsN | apply obsC | apply obA | apply obM | apply obB | apply svA | apply tupA | apply lcA | apply lcS | apply svC | apply liC | apply lbC | apply lsC | apply vIc | apply vBc | apply vSc | apply vLc | apply mapC | apply Hc_sEqBindingsLa | apply Ec_sEqBindingsLa | apply Sc_sEqBindingsLa | apply EW1c_sEqBindingsLa | apply c_sSameInts)
  all_goals (try simp only [std] at *)
  all_goals (try (first | with_reducible rfl | omega | assumption | (refine (decide_eq_true ?_).symm; assumption) | (refine (decide_eq_false ?_).symm; assumption) | (refine rowGet ?_; (first | omega | (simp only [std]; omega) | grind)) | (refine getC ?_ rfl; (first | omega | (simp only [std]; omega) | grind)) | (refine fill_step ?_ ?_; (first | omega | (simp only [std]; omega) | grind); (first | rfl | exact (Row.eq _).trans rfl)) | (refine fill_init ?_; (first | rfl | exact (Row.eq _).trans rfl)) | grind [snocI, snocS, rowSnoc]))
abbrev P_c_sEqRules (x : Rules) (y : Rules) : Prop := CallOK Try.prog 135 [] [rulesA x, rulesA y] [] (.sv (lb (decide (x = y))))
theorem run_c_sEqRules (x : Rules) (y : Rules) : aexec Try.prog (Option.getD (Func.body Try.f135) Code.skip) (entry [] [rulesA x, rulesA y] 24) [Orc.call [Mode.rd, Mode.rd] []
 (AV.sv (lb (decide (Rules.literals x = Rules.literals y)))), Orc.br [Orc.call [Mode.rd, Mode.rd] [] (AV.sv (lb (decide (Rules.patterns x = Rules.patterns y)))), Orc.br [Orc.call
 [Mode.rd, Mode.rd] [] (AV.sv (lb (decide (Rules.templates x = Rules.templates y)))), Orc.fin []] [Orc.fin []]] [Orc.bool false, Orc.fin []]] (finK Try.prog [ResultVar.tmp 4] []
 (AV.sv (lb (decide (x = y))))) = (P_c_sEqSyntaxes (Rules.literals x) (Rules.literals y) ∧ (decide (Rules.literals x = Rules.literals y) = true → P_c_sEqSyntaxes (Rules.patterns x)
 (Rules.patterns y) ∧ (decide (Rules.patterns x = Rules.patterns y) = true → P_c_sEqSyntaxes (Rules.templates x) (Rules.templates y) ∧ ObsEq [] [] ∧ AV.sv (lb (decide
 (Rules.templates x = Rules.templates y))) = AV.sv (lb (decide (x = y)))) ∧ (decide (Rules.patterns x = Rules.patterns y) = false → ObsEq [] [] ∧ AV.sv (lb false) = AV.sv (lb
 (decide (x = y))))) ∧ (decide (Rules.literals x = Rules.literals y) = false → false = false ∧ ObsEq [] [] ∧ AV.sv (lb false) = AV.sv (lb (decide (x = y))))) := by kernel_rfl
theorem c_sEqRules (x y : Rules)  : P_c_sEqRules x y := by
  refine CallOK.ofRun wide (run_c_sEqRules x y) Try.call135 Try.func135 rfl rfl rfl ?_
  simp only [rulesExt]
  with_reducible repeat' (first | apply And.intro | exact flatI | exact flatS | exact rowLens | (intro; skip) | apply obsN | apply obsC | apply obA | apply obM | apply obB | apply svA | apply tupA | apply lcA | apply lcS | apply svC | apply liC | apply lbC | apply lsC | apply vIc | apply vBc | apply vSc | apply vLc | apply mapC | apply c_sEqSyntaxes)
  all_goals (try simp only [std] at *)
  all_goals (try (first | with_reducible rfl | omega | assumption | (refine (decide_eq_true ?_).symm; assumption) | (refine (decide_eq_false ?_).symm; assumption) | (refine rowGet ?_; (first | omega | (simp only [std]; omega) | grind)) | (refine getC ?_ rfl; (first | omega | (simp only [std]; omega) | grind)) | (refine fill_step ?_ ?_; (first | omega | (simp only [std]; omega) | grind); (first | rfl | exact (Row.eq _).trans rfl)) | (refine fill_init ?_; (first | rfl | exact (Row.eq _).trans rfl)) | grind [snocI, snocS, rowSnoc]))
abbrev P_c_sEqExpanders (x : Expander) (y : Expander) : Prop := CallOK Try.prog 39 [] [expanderA x, expanderA y] [] (.sv (lb (decide (x = y))))
def Tc_sEqExpandersLa (x : Expander) (y : Expander) (x0 : SV) : St := St.mk (regsOf 61 [(2, AV.sv (SV.one (AC.ptr 0 0))), (3, AV.sv (SV.one (AC.ptr 1 0))), (44, AV.sv (li
 (↑(List.length (List.map rulesC (Expander.macros x))) : Int))), (45, AV.sv x0)]) [Ob.box (vals (expanderF x)), Ob.box (vals (expanderF y))] 0 
def Lc_sEqExpandersLa (x : Expander) (y : Expander) (k : Nat) : St := Tc_sEqExpandersLa x y (li (↑k : Int)) 
def Ic_sEqExpandersLa (x : Expander) (y : Expander) : Nat → St → Prop := Head (Lc_sEqExpandersLa x y) (fun k => k ≤ List.length (Expander.macros x) ∧ List.length (Expander.macros
 x) ≤ 9223372036854775807 ∧ List.length (Expander.macros x) = List.length (Expander.macros y) ∧ List.take k (Expander.macros x) = List.take k (Expander.macros y)) fun k =>
 List.length (Expander.macros x) - k 
def W0c_sEqExpandersLa (x : Expander) (y : Expander) : St := St.mk (regsOf 61 []) [] 0 
def W1c_sEqExpandersLa (x : Expander) (y : Expander) (x0 : SV) : St := St.mk (regsOf 61 [(4, AV.sv x0)]) [] 0 
def Yc_sEqExpandersLa (x : Expander) (y : Expander) : List (Prop × AEx × St) := [(Expander.macros x = Expander.macros y, AEx.exit 0, W0c_sEqExpandersLa x y), (Expander.macros x ≠
 Expander.macros y, AEx.ret, W1c_sEqExpandersLa x y (lb false))]
theorem Hc_sEqExpandersLa {x : Expander} {y : Expander} {k : Nat} {m : Nat} (h : (fun k => k ≤ List.length (Expander.macros x) ∧ List.length (Expander.macros x) ≤
 9223372036854775807 ∧ List.length (Expander.macros x) = List.length (Expander.macros y) ∧ List.take k (Expander.macros x) = List.take k (Expander.macros y)) k) (hm : (fun k =>
 List.length (Expander.macros x) - k) k = m) : Ic_sEqExpandersLa x y m (Lc_sEqExpandersLa x y k) := hm ▸ Head.mk h
theorem Ec_sEqExpandersLa {x : Expander} {y : Expander} {k : Nat} {x0 : SV} (h0 : x0 = (li (↑k : Int))) : Tc_sEqExpandersLa x y x0 = Lc_sEqExpandersLa x y k := by
  rw [h0]
  rfl
theorem EW1c_sEqExpandersLa {x : Expander} {y : Expander} {x0 y0 : SV} (h0 : x0 = y0) : W1c_sEqExpandersLa x y x0 = W1c_sEqExpandersLa x y y0 := by rw [h0]
theorem run_c_sEqExpandersLa (x : Expander) (y : Expander) (k : Nat) : aexec Try.prog (loopAt Try.f39 0) (Lc_sEqExpandersLa x y k) [Orc.br [Orc.draw [], Orc.cells (rulesF
 (List.getD (Expander.macros x) k default)), Orc.cells (rulesF (List.getD (Expander.macros y) k default)), Orc.call [Mode.rd, Mode.rd] [] (AV.sv (lb (decide (List.getD
 (Expander.macros x) k default = List.getD (Expander.macros y) k default)))), Orc.br [Orc.ghost (Ghost.sel [] [4]), Orc.out 1] [Orc.ghost (Ghost.sel [0, 1] [2, 3, 44, 45]),
 Orc.goto (List.length (Expander.macros x) - (k + 1)) (Lc_sEqExpandersLa x y (k + 1))]] [Orc.ghost (Ghost.sel [] []), Orc.out 0]] (loopK (Ic_sEqExpandersLa x y) (Yc_sEqExpandersLa
 x y) (List.length (Expander.macros x) - k)) = ((decide ((↑k : Int) < (↑(List.length (List.map rulesC (Expander.macros x))) : Int)) = true → (0 ≤ (↑k : Int) ∧ (List.map rulesC
 (Expander.macros x))[Int.toNat (↑k : Int)]? = some (rulesF (List.getD (Expander.macros x) k default))) ∧ (0 ≤ (↑k : Int) ∧ (List.map rulesC (Expander.macros y))[Int.toNat (↑k :
 Int)]? = some (rulesF (List.getD (Expander.macros y) k default))) ∧ P_c_sEqRules (List.getD (Expander.macros x) k default) (List.getD (Expander.macros y) k default) ∧ ((!decide
 (List.getD (Expander.macros x) k default = List.getD (Expander.macros y) k default)) = true → Expander.macros x ≠ Expander.macros y ∧ W1c_sEqExpandersLa x y (lb false) =
 W1c_sEqExpandersLa x y (lb false)) ∧ ((!decide (List.getD (Expander.macros x) k default = List.getD (Expander.macros y) k default)) = false → rng IntKind.i64 ((↑k : Int) + 1) ∧
 List.length (Expander.macros x) - (k + 1) < List.length (Expander.macros x) - k ∧ Tc_sEqExpandersLa x y (li ((↑k : Int) + 1)) = Lc_sEqExpandersLa x y (k + 1) ∧ Ic_sEqExpandersLa x
 y (List.length (Expander.macros x) - (k + 1)) (Lc_sEqExpandersLa x y (k + 1)))) ∧ (decide ((↑k : Int) < (↑(List.length (List.map rulesC (Expander.macros x))) : Int)) = false →
 Expander.macros x = Expander.macros y ∧ W0c_sEqExpandersLa x y = W0c_sEqExpandersLa x y)) := by kernel_rfl
theorem Sc_sEqExpandersLa (x : Expander) (y : Expander)  : LoopSem Try.prog (loopAt Try.f39 0) (Ic_sEqExpandersLa x y) (Yc_sEqExpandersLa x y) := by
  refine LoopSem.ofHead wide fun k h => ⟨_, _, run_c_sEqExpandersLa x y k, ?_⟩
  with_reducible repeat' (first | apply And.intro | exact flatI | exact flatS | exact rowLens | (intro; skip) | apply obsN | apply obsC | apply obA | apply obM | apply obB | apply svA | apply tupA | apply lcA | apply lcS | apply svC | apply liC | apply lbC | apply lsC | apply vIc | apply vBc | apply vSc | apply vLc | apply mapC | apply Hc_sEqExpandersLa | apply Ec_sEqExpandersLa | apply EW1c_sEqExpandersLa | apply c_sEqBindings | apply c_sEqRules)
  all_goals (try simp only [std] at *)
  all_goals (try (first | with_reducible rfl | omega | assumption | (refine (decide_eq_true ?_).symm; assumption) | (refine (decide_eq_false ?_).symm; assumption) | (refine rowGet ?_; (first | omega | (simp only [std]; omega) | grind)) | (refine getC ?_ rfl; (first | omega | (simp only [std]; omega) | grind)) | (refine fill_step ?_ ?_; (first | omega | (simp only [std]; omega) | grind); (first | rfl | exact (Row.eq _).trans rfl)) | (refine fill_init ?_; (first | rfl | exact (Row.eq _).trans rfl)) | grind [take_eq, snocI, snocS, rowSnoc]))
theorem run_c_sEqExpanders (x : Expander) (y : Expander) : aexec Try.prog (Option.getD (Func.body Try.f39) Code.skip) (entry [] [expanderA x, expanderA y] 61) [Orc.call [Mode.rd,
 Mode.rd] [] (AV.sv (lb (decide (Expander.bindings x = Expander.bindings y)))), Orc.br [Orc.bool true, Orc.bool true, Orc.bool true, Orc.bool true, Orc.fin []] [Orc.br [Orc.bool
 true, Orc.bool true, Orc.bool true, Orc.fin []] [Orc.br [Orc.bool true, Orc.bool true, Orc.fin []] [Orc.br [Orc.bool true, Orc.fin []] [Orc.br [Orc.fin []] [Orc.ghost (Ghost.sel
 [0, 1] [2, 3, 44, 45]), Orc.loop (List.length (Expander.macros x) - 0) (Lc_sEqExpandersLa x y 0) (Ic_sEqExpandersLa x y) [(Expander.macros x = Expander.macros y, AEx.exit 0,
 W0c_sEqExpandersLa x y, [Orc.fin []]), (Expander.macros x ≠ Expander.macros y, AEx.ret, W1c_sEqExpandersLa x y (lb false), [Orc.fin []])]]]]]]] (finK Try.prog [ResultVar.tmp 4] []
 (AV.sv (lb (decide (x = y))))) = (P_c_sEqBindings (Expander.bindings x) (Expander.bindings y) ∧ ((!decide (Expander.bindings x = Expander.bindings y)) = true → true = true ∧ true
 = true ∧ true = true ∧ true = true ∧ ObsEq [] [] ∧ AV.sv (lb false) = AV.sv (lb (decide (x = y)))) ∧ ((!decide (Expander.bindings x = Expander.bindings y)) = false → List.length
 (List.map rulesC (Expander.macros x)) ≤ 9223372036854775807 → List.length (List.map rulesC (Expander.macros y)) ≤ 9223372036854775807 → (decide ((↑(List.length (List.map rulesC
 (Expander.macros x))) : Int) ≠ (↑(List.length (List.map rulesC (Expander.macros y))) : Int)) = true → true = true ∧ true = true ∧ true = true ∧ ObsEq [] [] ∧ AV.sv (lb false) =
 AV.sv (lb (decide (x = y)))) ∧ (decide ((↑(List.length (List.map rulesC (Expander.macros x))) : Int) ≠ (↑(List.length (List.map rulesC (Expander.macros y))) : Int)) = false →
 (decide (Expander.scope x ≠ Expander.scope y) = true → true = true ∧ true = true ∧ ObsEq [] [] ∧ AV.sv (lb false) = AV.sv (lb (decide (x = y)))) ∧ (decide (Expander.scope x ≠
 Expander.scope y) = false → (decide (Expander.vari x ≠ Expander.vari y) = true → true = true ∧ ObsEq [] [] ∧ AV.sv (lb false) = AV.sv (lb (decide (x = y)))) ∧ (decide
 (Expander.vari x ≠ Expander.vari y) = false → (decide (Expander.steps x ≠ Expander.steps y) = true → ObsEq [] [] ∧ AV.sv (lb false) = AV.sv (lb (decide (x = y)))) ∧ (decide
 (Expander.steps x ≠ Expander.steps y) = false → List.length (List.map rulesC (Expander.macros x)) ≤ 9223372036854775807 → Tc_sEqExpandersLa x y (li 0) = Lc_sEqExpandersLa x y 0 ∧
 Ic_sEqExpandersLa x y (List.length (Expander.macros x) - 0) (Lc_sEqExpandersLa x y 0) ∧ LoopSem Try.prog (loopAt Try.f39 0) (Ic_sEqExpandersLa x y) (Yc_sEqExpandersLa x y) ∧
 (Expander.macros x = Expander.macros y → ObsEq [] [] ∧ AV.sv (lb true) = AV.sv (lb (decide (x = y)))) ∧ ((Expander.macros x = Expander.macros y → False) → ObsEq [] [] ∧ AV.sv (lb
 false) = AV.sv (lb (decide (x = y)))) ∧ True)))))) := by kernel_rfl
theorem c_sEqExpanders (x y : Expander)  : P_c_sEqExpanders x y := by
  refine CallOK.ofRun wide (run_c_sEqExpanders x y) Try.call39 Try.func39 rfl rfl rfl ?_
  simp only [expanderExt]
  with_reducible repeat' (first | apply And.intro | exact flatI | exact flatS | exact rowLens | (intro; skip) | apply obsN | apply obsC | apply obA | apply obM | apply obB | apply svA | apply tupA | apply lcA | apply lcS | apply svC | apply liC | apply lbC | apply lsC | apply vIc | apply vBc | apply vSc | apply vLc | apply mapC | apply Hc_sEqExpandersLa | apply Ec_sEqExpandersLa | apply Sc_sEqExpandersLa | apply EW1c_sEqExpandersLa | apply c_sEqBindings | apply c_sEqRules)
  all_goals (try simp only [std] at *)
  all_goals (try (first | with_reducible rfl | omega | assumption | (refine (decide_eq_true ?_).symm; assumption) | (refine (decide_eq_false ?_).symm; assumption) | (refine rowGet ?_; (first | omega | (simp only [std]; omega) | grind)) | (refine getC ?_ rfl; (first | omega | (simp only [std]; omega) | grind)) | (refine fill_step ?_ ?_; (first | omega | (simp only [std]; omega) | grind); (first | rfl | exact (Row.eq _).trans rfl)) | (refine fill_init ?_; (first | rfl | exact (Row.eq _).trans rfl)) | grind [snocI, snocS, rowSnoc]))
abbrev P_c_iSameInts (A : List Int) (B : List Int) : Prop := CallOK Try.prog 231 [] [ll (A.map intC), ll (B.map intC)] [] (.sv (lb (decide (A = B))))
def Tc_iSameIntsLa (A : List Int) (B : List Int) (x0 : SV) : St := St.mk (regsOf 26 [(0, AV.sv (ll (List.map intC A))), (1, AV.sv (ll (List.map intC B))), (12, AV.sv (li
 (↑(List.length (List.map intC A)) : Int))), (13, AV.sv x0)]) [] 0 
def Lc_iSameIntsLa (A : List Int) (B : List Int) (k : Nat) : St := Tc_iSameIntsLa A B (li (↑k : Int)) 
def Ic_iSameIntsLa (A : List Int) (B : List Int) : Nat → St → Prop := Head (Lc_iSameIntsLa A B) (fun k => k ≤ List.length A ∧ List.length A ≤ 9223372036854775807 ∧ List.length A =
 List.length B ∧ List.take k A = List.take k B) fun k => List.length A - k 
def W0c_iSameIntsLa (A : List Int) (B : List Int) : St := St.mk (regsOf 26 []) [] 0 
def W1c_iSameIntsLa (A : List Int) (B : List Int) (x0 : SV) : St := St.mk (regsOf 26 [(4, AV.sv x0)]) [] 0 
def Yc_iSameIntsLa (A : List Int) (B : List Int) : List (Prop × AEx × St) := [(A = B, AEx.exit 0, W0c_iSameIntsLa A B), (A ≠ B, AEx.ret, W1c_iSameIntsLa A B (lb false))]
theorem Hc_iSameIntsLa {A : List Int} {B : List Int} {k : Nat} {m : Nat} (h : (fun k => k ≤ List.length A ∧ List.length A ≤ 9223372036854775807 ∧ List.length A = List.length B ∧
 List.take k A = List.take k B) k) (hm : (fun k => List.length A - k) k = m) : Ic_iSameIntsLa A B m (Lc_iSameIntsLa A B k) := hm ▸ Head.mk h
theorem Ec_iSameIntsLa {A : List Int} {B : List Int} {k : Nat} {x0 : SV} (h0 : x0 = (li (↑k : Int))) : Tc_iSameIntsLa A B x0 = Lc_iSameIntsLa A B k := by
  rw [h0]
  rfl
theorem EW1c_iSameIntsLa {A : List Int} {B : List Int} {x0 y0 : SV} (h0 : x0 = y0) : W1c_iSameIntsLa A B x0 = W1c_iSameIntsLa A B y0 := by rw [h0]
theorem run_c_iSameIntsLa (A : List Int) (B : List Int) (k : Nat) : aexec Try.prog (loopAt Try.f231 0) (Lc_iSameIntsLa A B k) [Orc.br [Orc.draw [], Orc.cells (intC (List.getD A k
 default)), Orc.cells (intC (List.getD B k default)), Orc.br [Orc.ghost (Ghost.sel [] [4]), Orc.out 1] [Orc.ghost (Ghost.sel [] [0, 1, 12, 13]), Orc.goto (List.length A - (k + 1))
 (Lc_iSameIntsLa A B (k + 1))]] [Orc.ghost (Ghost.sel [] []), Orc.out 0]] (loopK (Ic_iSameIntsLa A B) (Yc_iSameIntsLa A B) (List.length A - k)) = ((decide ((↑k : Int) <
 (↑(List.length (List.map intC A)) : Int)) = true → (0 ≤ (↑k : Int) ∧ (List.map intC A)[Int.toNat (↑k : Int)]? = some [cI (List.getD A k 0)]) ∧ (0 ≤ (↑k : Int) ∧ (List.map intC
 B)[Int.toNat (↑k : Int)]? = some [cI (List.getD B k 0)]) ∧ (decide (List.getD A k (0 : Int) ≠ List.getD B k 0) = true → A ≠ B ∧ W1c_iSameIntsLa A B (lb false) = W1c_iSameIntsLa A
 B (lb false)) ∧ (decide (List.getD A k (0 : Int) ≠ List.getD B k 0) = false → rng IntKind.i64 ((↑k : Int) + 1) ∧ List.length A - (k + 1) < List.length A - k ∧ Tc_iSameIntsLa A B
 (li ((↑k : Int) + 1)) = Lc_iSameIntsLa A B (k + 1) ∧ Ic_iSameIntsLa A B (List.length A - (k + 1)) (Lc_iSameIntsLa A B (k + 1)))) ∧ (decide ((↑k : Int) < (↑(List.length (List.map
 intC A)) : Int)) = false → A = B ∧ W0c_iSameIntsLa A B = W0c_iSameIntsLa A B)) := by kernel_rfl
theorem Sc_iSameIntsLa (A : List Int) (B : List Int)  : LoopSem Try.prog (loopAt Try.f231 0) (Ic_iSameIntsLa A B) (Yc_iSameIntsLa A B) := by
  refine LoopSem.ofHead wide fun k h => ⟨_, _, run_c_iSameIntsLa A B k, ?_⟩
  with_reducible repeat' (first | apply And.intro | exact flatI | exact flatS | exact rowLens | (intro; skip) | apply obsN | apply obsC | apply obA | apply obM | apply obB | apply svA | apply tupA | apply lcA | apply lcS | apply svC | apply liC | apply lbC | apply lsC | apply vIc | apply vBc | apply vSc | apply vLc | apply mapC | apply Hc_iSameIntsLa | apply Ec_iSameIntsLa | apply EW1c_iSameIntsLa)
  all_goals (try simp only [std] at *)
  all_goals (try (first | with_reducible rfl | omega | assumption | (refine (decide_eq_true ?_).symm; assumption) | (refine (decide_eq_false ?_).symm; assumption) | (refine rowGet ?_; (first | omega | (simp only [std]; omega) | grind)) | (refine getC ?_ rfl; (first | omega | (simp only [std]; omega) | grind)) | (refine fill_step ?_ ?_; (first | omega | (simp only [std]; omega) | grind); (first | rfl | exact (Row.eq _).trans rfl)) | (refine fill_init ?_; (first | rfl | exact (Row.eq _).trans rfl)) | grind [take_eq, snocI, snocS, rowSnoc]))
theorem run_c_iSameInts (A : List Int) (B : List Int) : aexec Try.prog (Option.getD (Func.body Try.f231) Code.skip) (entry [] [ll (List.map intC A), ll (List.map intC B)] 26)
 [Orc.br [Orc.fin []] [Orc.ghost (Ghost.sel [] [0, 1, 12, 13]), Orc.loop (List.length A - 0) (Lc_iSameIntsLa A B 0) (Ic_iSameIntsLa A B) [(A = B, AEx.exit 0, W0c_iSameIntsLa A B,
 [Orc.fin []]), (A ≠ B, AEx.ret, W1c_iSameIntsLa A B (lb false), [Orc.fin []])]]] (finK Try.prog [ResultVar.tmp 4] [] (AV.sv (lb (decide (A = B))))) = (List.length (List.map intC
 A) ≤ 9223372036854775807 → List.length (List.map intC B) ≤ 9223372036854775807 → (decide ((↑(List.length (List.map intC A)) : Int) ≠ (↑(List.length (List.map intC B)) : Int)) =
 true → ObsEq [] [] ∧ AV.sv (lb false) = AV.sv (lb (decide (A = B)))) ∧ (decide ((↑(List.length (List.map intC A)) : Int) ≠ (↑(List.length (List.map intC B)) : Int)) = false →
 List.length (List.map intC A) ≤ 9223372036854775807 → Tc_iSameIntsLa A B (li 0) = Lc_iSameIntsLa A B 0 ∧ Ic_iSameIntsLa A B (List.length A - 0) (Lc_iSameIntsLa A B 0) ∧ LoopSem
 Try.prog (loopAt Try.f231 0) (Ic_iSameIntsLa A B) (Yc_iSameIntsLa A B) ∧ (A = B → ObsEq [] [] ∧ AV.sv (lb true) = AV.sv (lb (decide (A = B)))) ∧ ((A = B → False) → ObsEq [] [] ∧
 AV.sv (lb false) = AV.sv (lb (decide (A = B)))) ∧ True)) := by kernel_rfl
theorem c_iSameInts (A B : List Int)  : P_c_iSameInts A B := by
  refine CallOK.ofRun wide (run_c_iSameInts A B) Try.call231 Try.func231 rfl rfl rfl ?_
  with_reducible repeat' (first | apply And.intro | exact flatI | exact flatS | exact rowLens | (intro; skip) | apply obsN | apply obsC | apply obA | apply obM | apply obB | apply svA | apply tupA | apply lcA | apply lcS | apply svC | apply liC | apply lbC | apply lsC | apply vIc | apply vBc | apply vSc | apply vLc | apply mapC | apply Hc_iSameIntsLa | apply Ec_iSameIntsLa | apply Sc_iSameIntsLa | apply EW1c_iSameIntsLa)
  all_goals (try simp only [std] at *)
  all_goals (try (first | with_reducible rfl | omega | assumption | (refine (decide_eq_true ?_).symm; assumption) | (refine (decide_eq_false ?_).symm; assumption) | (refine rowGet ?_; (first | omega | (simp only [std]; omega) | grind)) | (refine getC ?_ rfl; (first | omega | (simp only [std]; omega) | grind)) | (refine fill_step ?_ ?_; (first | omega | (simp only [std]; omega) | grind); (first | rfl | exact (Row.eq _).trans rfl)) | (refine fill_init ?_; (first | rfl | exact (Row.eq _).trans rfl)) | grind [snocI, snocS, rowSnoc]))
abbrev P_c_iEqSyntax (x : Syntax) (y : Syntax) : Prop := CallOK Try.prog 274 [] [syntaxA x, syntaxA y] [] (.sv (lb (decide (x = y))))
def Tc_iEqSyntax_sLa (x : Syntax) (y : Syntax) (x0 : SV) : St := St.mk (regsOf 61 [(2, AV.sv (SV.one (AC.ptr 0 0))), (3, AV.sv (SV.one (AC.ptr 1 0))), (44, AV.sv (li (↑(List.length
 (List.map syntaxC (Syntax.items x))) : Int))), (45, AV.sv x0)]) [Ob.box (vals (syntaxF x)), Ob.box (vals (syntaxF y))] 0 
def Lc_iEqSyntax_sLa (x : Syntax) (y : Syntax) (k : Nat) : St := Tc_iEqSyntax_sLa x y (li (↑k : Int)) 
def Ic_iEqSyntax_sLa (x : Syntax) (y : Syntax) : Nat → St → Prop := Head (Lc_iEqSyntax_sLa x y) (fun k => k ≤ List.length (Syntax.items x) ∧ List.length (Syntax.items x) ≤
 9223372036854775807 ∧ List.length (Syntax.items x) = List.length (Syntax.items y) ∧ List.take k (Syntax.items x) = List.take k (Syntax.items y)) fun k => List.length (Syntax.items
 x) - k 
def W0c_iEqSyntax_sLa (x : Syntax) (y : Syntax) : St := St.mk (regsOf 61 []) [] 0 
def W1c_iEqSyntax_sLa (x : Syntax) (y : Syntax) (x0 : SV) : St := St.mk (regsOf 61 [(4, AV.sv x0)]) [] 0 
def Yc_iEqSyntax_sLa (x : Syntax) (y : Syntax) : List (Prop × AEx × St) := [(Syntax.items x = Syntax.items y, AEx.exit 0, W0c_iEqSyntax_sLa x y), (Syntax.items x ≠ Syntax.items y,
 AEx.ret, W1c_iEqSyntax_sLa x y (lb false))]
theorem Hc_iEqSyntax_sLa {x : Syntax} {y : Syntax} {k : Nat} {m : Nat} (h : (fun k => k ≤ List.length (Syntax.items x) ∧ List.length (Syntax.items x) ≤ 9223372036854775807 ∧
 List.length (Syntax.items x) = List.length (Syntax.items y) ∧ List.take k (Syntax.items x) = List.take k (Syntax.items y)) k) (hm : (fun k => List.length (Syntax.items x) - k) k =
 m) : Ic_iEqSyntax_sLa x y m (Lc_iEqSyntax_sLa x y k) := hm ▸ Head.mk h
theorem Ec_iEqSyntax_sLa {x : Syntax} {y : Syntax} {k : Nat} {x0 : SV} (h0 : x0 = (li (↑k : Int))) : Tc_iEqSyntax_sLa x y x0 = Lc_iEqSyntax_sLa x y k := by
  rw [h0]
  rfl
theorem EW1c_iEqSyntax_sLa {x : Syntax} {y : Syntax} {x0 y0 : SV} (h0 : x0 = y0) : W1c_iEqSyntax_sLa x y x0 = W1c_iEqSyntax_sLa x y y0 := by rw [h0]
theorem run_c_iEqSyntax_sLa (x : Syntax) (y : Syntax) (k : Nat) : aexec Try.prog (loopAt Try.f274 0) (Lc_iEqSyntax_sLa x y k) [Orc.br [Orc.draw [], Orc.cells (syntaxF (List.getD
 (Syntax.items x) k default)), Orc.cells (syntaxF (List.getD (Syntax.items y) k default)), Orc.call [Mode.rd, Mode.rd] [] (AV.sv (lb (decide (List.getD (Syntax.items x) k default =
 List.getD (Syntax.items y) k default)))), Orc.br [Orc.ghost (Ghost.sel [] [4]), Orc.out 1] [Orc.ghost (Ghost.sel [0, 1] [2, 3, 44, 45]), Orc.goto (List.length (Syntax.items x) -
 (k + 1)) (Lc_iEqSyntax_sLa x y (k + 1))]] [Orc.ghost (Ghost.sel [] []), Orc.out 0]] (loopK (Ic_iEqSyntax_sLa x y) (Yc_iEqSyntax_sLa x y) (List.length (Syntax.items x) - k)) =
 ((decide ((↑k : Int) < (↑(List.length (List.map syntaxC (Syntax.items x))) : Int)) = true → (0 ≤ (↑k : Int) ∧ (List.map syntaxC (Syntax.items x))[Int.toNat (↑k : Int)]? = some
 (syntaxF (List.getD (Syntax.items x) k default))) ∧ (0 ≤ (↑k : Int) ∧ (List.map syntaxC (Syntax.items y))[Int.toNat (↑k : Int)]? = some (syntaxF (List.getD (Syntax.items y) k
 default))) ∧ P_c_iEqSyntax (List.getD (Syntax.items x) k default) (List.getD (Syntax.items y) k default) ∧ ((!decide (List.getD (Syntax.items x) k default = List.getD
 (Syntax.items y) k default)) = true → Syntax.items x ≠ Syntax.items y ∧ W1c_iEqSyntax_sLa x y (lb false) = W1c_iEqSyntax_sLa x y (lb false)) ∧ ((!decide (List.getD (Syntax.items
 x) k default = List.getD (Syntax.items y) k default)) = false → rng IntKind.i64 ((↑k : Int) + 1) ∧ List.length (Syntax.items x) - (k + 1) < List.length (Syntax.items x) - k ∧
 Tc_iEqSyntax_sLa x y (li ((↑k : Int) + 1)) = Lc_iEqSyntax_sLa x y (k + 1) ∧ Ic_iEqSyntax_sLa x y (List.length (Syntax.items x) - (k + 1)) (Lc_iEqSyntax_sLa x y (k + 1)))) ∧
 (decide ((↑k : Int) < (↑(List.length (List.map syntaxC (Syntax.items x))) : Int)) = false → Syntax.items x = Syntax.items y ∧ W0c_iEqSyntax_sLa x y = W0c_iEqSyntax_sLa x y)) := by
 kernel_rfl
theorem Sc_iEqSyntax_sLa (x : Syntax) (y : Syntax) (ih : ∀ (z : Syntax), z ∈ Syntax.items x → ∀ (y : Syntax), P_c_iEqSyntax z y)  : LoopSem Try.prog (loopAt Try.f274 0)
 (Ic_iEqSyntax_sLa x y) (Yc_iEqSyntax_sLa x y) := by
  refine LoopSem.ofHead wide fun k h => ⟨_, _, run_c_iEqSyntax_sLa x y k, ?_⟩
  with_reducible repeat' (first | apply And.intro | exact flatI | exact flatS | exact rowLens | exact ih | (intro; skip) | apply obsN | apply obsC | apply obA | apply obM | apply obB | apply svA | apply tupA | apply lcA | apply lcS | apply svC | apply liC | apply lbC | apply lsC | apply vIc | apply vBc | apply vSc | apply vLc | apply mapC | apply Hc_iEqSyntax_sLa | apply Ec_iEqSyntax_sLa | apply EW1c_iEqSyntax_sLa | apply c_iSameInts | apply ih)
  all_goals (try simp only [std] at *)
  all_goals (try (first | with_reducible rfl | omega | assumption | (refine (decide_eq_true ?_).symm; assumption) | (refine (decide_eq_false ?_).symm; assumption) | (refine rowGet ?_; (first | omega | (simp only [std]; omega) | grind)) | (refine getC ?_ rfl; (first | omega | (simp only [std]; omega) | grind)) | (refine fill_step ?_ ?_; (first | omega | (simp only [std]; omega) | grind); (first | rfl | exact (Row.eq _).trans rfl)) | (refine fill_init ?_; (first | rfl | exact (Row.eq _).trans rfl)) | grind [take_eq, getD_mem', snocI, snocS, rowSnoc]))
theorem run_c_iEqSyntax_s (x : Syntax) (y : Syntax) : aexec Try.prog (Option.getD (Func.body Try.f274) Code.skip) (entry [] [syntaxA x, syntaxA y] 61) [Orc.br [Orc.bool true,
 Orc.bool true, Orc.bool true, Orc.bool true, Orc.fin []] [Orc.br [Orc.bool true, Orc.bool true, Orc.bool true, Orc.fin []] [Orc.br [Orc.bool true, Orc.bool true, Orc.fin []]
 [Orc.call [Mode.rd, Mode.rd] [] (AV.sv (lb (decide (Syntax.scopes x = Syntax.scopes y)))), Orc.br [Orc.bool true, Orc.fin []] [Orc.br [Orc.fin []] [Orc.ghost (Ghost.sel [0, 1] [2,
 3, 44, 45]), Orc.loop (List.length (Syntax.items x) - 0) (Lc_iEqSyntax_sLa x y 0) (Ic_iEqSyntax_sLa x y) [(Syntax.items x = Syntax.items y, AEx.exit 0, W0c_iEqSyntax_sLa x y,
 [Orc.fin []]), (Syntax.items x ≠ Syntax.items y, AEx.ret, W1c_iEqSyntax_sLa x y (lb false), [Orc.fin []])]]]]]]] (finK Try.prog [ResultVar.tmp 4] [] (AV.sv (lb (decide (x = y)))))
 = ((decide (Syntax.kind x ≠ Syntax.kind y) = true → true = true ∧ true = true ∧ true = true ∧ true = true ∧ ObsEq [] [] ∧ AV.sv (lb false) = AV.sv (lb (decide (x = y)))) ∧ (decide
 (Syntax.kind x ≠ Syntax.kind y) = false → (decide (Syntax.number x ≠ Syntax.number y) = true → true = true ∧ true = true ∧ true = true ∧ ObsEq [] [] ∧ AV.sv (lb false) = AV.sv (lb
 (decide (x = y)))) ∧ (decide (Syntax.number x ≠ Syntax.number y) = false → (decide (Array.toList (ByteArray.data (Syntax.text x)) ≠ Array.toList (ByteArray.data (Syntax.text y)))
 = true → true = true ∧ true = true ∧ ObsEq [] [] ∧ AV.sv (lb false) = AV.sv (lb (decide (x = y)))) ∧ (decide (Array.toList (ByteArray.data (Syntax.text x)) ≠ Array.toList
 (ByteArray.data (Syntax.text y))) = false → P_c_iSameInts (Syntax.scopes x) (Syntax.scopes y) ∧ ((!decide (Syntax.scopes x = Syntax.scopes y)) = true → true = true ∧ ObsEq [] [] ∧
 AV.sv (lb false) = AV.sv (lb (decide (x = y)))) ∧ ((!decide (Syntax.scopes x = Syntax.scopes y)) = false → List.length (List.map syntaxC (Syntax.items x)) ≤ 9223372036854775807 →
 List.length (List.map syntaxC (Syntax.items y)) ≤ 9223372036854775807 → (decide ((↑(List.length (List.map syntaxC (Syntax.items x))) : Int) ≠ (↑(List.length (List.map syntaxC
 (Syntax.items y))) : Int)) = true → ObsEq [] [] ∧ AV.sv (lb false) = AV.sv (lb (decide (x = y)))) ∧ (decide ((↑(List.length (List.map syntaxC (Syntax.items x))) : Int) ≠
 (↑(List.length (List.map syntaxC (Syntax.items y))) : Int)) = false → List.length (List.map syntaxC (Syntax.items x)) ≤ 9223372036854775807 → Tc_iEqSyntax_sLa x y (li 0) =
 Lc_iEqSyntax_sLa x y 0 ∧ Ic_iEqSyntax_sLa x y (List.length (Syntax.items x) - 0) (Lc_iEqSyntax_sLa x y 0) ∧ LoopSem Try.prog (loopAt Try.f274 0) (Ic_iEqSyntax_sLa x y)
 (Yc_iEqSyntax_sLa x y) ∧ (Syntax.items x = Syntax.items y → ObsEq [] [] ∧ AV.sv (lb true) = AV.sv (lb (decide (x = y)))) ∧ ((Syntax.items x = Syntax.items y → False) → ObsEq [] []
 ∧ AV.sv (lb false) = AV.sv (lb (decide (x = y)))) ∧ True)))))) := by kernel_rfl
theorem c_iEqSyntax_s (x y : Syntax) (ih : ∀ z ∈ x.items, ∀ (y : Syntax), P_c_iEqSyntax z y)  : P_c_iEqSyntax x y := by
  refine CallOK.ofRun wide (run_c_iEqSyntax_s x y) Try.call274 Try.func274 rfl rfl rfl ?_
  simp only [syntaxExt]
  with_reducible repeat' (first | apply And.intro | exact flatI | exact flatS | exact rowLens | exact ih | (intro; skip) | apply obsN | apply obsC | apply obA | apply obM | apply obB | apply svA | apply tupA | apply lcA | apply lcS | apply svC | apply liC | apply lbC | apply lsC | apply vIc | apply vBc | apply vSc | apply vLc | apply mapC | apply Hc_iEqSyntax_sLa | apply Ec_iEqSyntax_sLa | apply Sc_iEqSyntax_sLa | apply EW1c_iEqSyntax_sLa | apply c_iSameInts)
  all_goals (try simp only [std] at *)
  all_goals (try (first | with_reducible rfl | omega | assumption | (refine (decide_eq_true ?_).symm; assumption) | (refine (decide_eq_false ?_).symm; assumption) | (refine rowGet ?_; (first | omega | (simp only [std]; omega) | grind)) | (refine getC ?_ rfl; (first | omega | (simp only [std]; omega) | grind)) | (refine fill_step ?_ ?_; (first | omega | (simp only [std]; omega) | grind); (first | rfl | exact (Row.eq _).trans rfl)) | (refine fill_init ?_; (first | rfl | exact (Row.eq _).trans rfl)) | grind [bytes_ext, snocI, snocS, rowSnoc]))
theorem c_iEqSyntax (x : Syntax) : ∀ (y : Syntax), P_c_iEqSyntax x y := Syntax.ind (P := fun x => ∀ (y : Syntax), P_c_iEqSyntax x y) (fun x ih y => c_iEqSyntax_s x y ih) x
abbrev P_c_iEqSyntaxes (A : List Syntax) (B : List Syntax) : Prop := CallOK Try.prog 232 [] [ll (A.map syntaxC), ll (B.map syntaxC)] [] (.sv (lb (decide (A = B))))
def Tc_iEqSyntaxesLa (A : List Syntax) (B : List Syntax) (x0 : SV) : St := St.mk (regsOf 27 [(0, AV.sv (ll (List.map syntaxC A))), (1, AV.sv (ll (List.map syntaxC B))), (12, AV.sv
 (li (↑(List.length (List.map syntaxC A)) : Int))), (13, AV.sv x0)]) [] 0 
def Lc_iEqSyntaxesLa (A : List Syntax) (B : List Syntax) (k : Nat) : St := Tc_iEqSyntaxesLa A B (li (↑k : Int)) 
def Ic_iEqSyntaxesLa (A : List Syntax) (B : List Syntax) : Nat → St → Prop := Head (Lc_iEqSyntaxesLa A B) (fun k => k ≤ List.length A ∧ List.length A ≤ 9223372036854775807 ∧
 List.length A = List.length B ∧ List.take k A = List.take k B) fun k => List.length A - k 
def W0c_iEqSyntaxesLa (A : List Syntax) (B : List Syntax) : St := St.mk (regsOf 27 []) [] 0 
def W1c_iEqSyntaxesLa (A : List Syntax) (B : List Syntax) (x0 : SV) : St := St.mk (regsOf 27 [(4, AV.sv x0)]) [] 0 
def Yc_iEqSyntaxesLa (A : List Syntax) (B : List Syntax) : List (Prop × AEx × St) := [(A = B, AEx.exit 0, W0c_iEqSyntaxesLa A B), (A ≠ B, AEx.ret, W1c_iEqSyntaxesLa A B (lb
 false))]
theorem Hc_iEqSyntaxesLa {A : List Syntax} {B : List Syntax} {k : Nat} {m : Nat} (h : (fun k => k ≤ List.length A ∧ List.length A ≤ 9223372036854775807 ∧ List.length A =
 List.length B ∧ List.take k A = List.take k B) k) (hm : (fun k => List.length A - k) k = m) : Ic_iEqSyntaxesLa A B m (Lc_iEqSyntaxesLa A B k) := hm ▸ Head.mk h
theorem Ec_iEqSyntaxesLa {A : List Syntax} {B : List Syntax} {k : Nat} {x0 : SV} (h0 : x0 = (li (↑k : Int))) : Tc_iEqSyntaxesLa A B x0 = Lc_iEqSyntaxesLa A B k := by
  rw [h0]
  rfl
theorem EW1c_iEqSyntaxesLa {A : List Syntax} {B : List Syntax} {x0 y0 : SV} (h0 : x0 = y0) : W1c_iEqSyntaxesLa A B x0 = W1c_iEqSyntaxesLa A B y0 := by rw [h0]
theorem run_c_iEqSyntaxesLa (A : List Syntax) (B : List Syntax) (k : Nat) : aexec Try.prog (loopAt Try.f232 0) (Lc_iEqSyntaxesLa A B k) [Orc.br [Orc.draw [], Orc.cells (syntaxF
 (List.getD A k default)), Orc.cells (syntaxF (List.getD B k default)), Orc.call [Mode.rd, Mode.rd] [] (AV.sv (lb (decide (List.getD A k default = List.getD B k default)))), Orc.br
 [Orc.ghost (Ghost.sel [] [4]), Orc.out 1] [Orc.ghost (Ghost.sel [] [0, 1, 12, 13]), Orc.goto (List.length A - (k + 1)) (Lc_iEqSyntaxesLa A B (k + 1))]] [Orc.ghost (Ghost.sel []
 []), Orc.out 0]] (loopK (Ic_iEqSyntaxesLa A B) (Yc_iEqSyntaxesLa A B) (List.length A - k)) = ((decide ((↑k : Int) < (↑(List.length (List.map syntaxC A)) : Int)) = true → (0 ≤ (↑k
 : Int) ∧ (List.map syntaxC A)[Int.toNat (↑k : Int)]? = some (syntaxF (List.getD A k default))) ∧ (0 ≤ (↑k : Int) ∧ (List.map syntaxC B)[Int.toNat (↑k : Int)]? = some (syntaxF
 (List.getD B k default))) ∧ P_c_iEqSyntax (List.getD A k default) (List.getD B k default) ∧ ((!decide (List.getD A k default = List.getD B k default)) = true → A ≠ B ∧
 W1c_iEqSyntaxesLa A B (lb false) = W1c_iEqSyntaxesLa A B (lb false)) ∧ ((!decide (List.getD A k default = List.getD B k default)) = false → rng IntKind.i64 ((↑k : Int) + 1) ∧
 List.length A - (k + 1) < List.length A - k ∧ Tc_iEqSyntaxesLa A B (li ((↑k : Int) + 1)) = Lc_iEqSyntaxesLa A B (k + 1) ∧ Ic_iEqSyntaxesLa A B (List.length A - (k + 1))
 (Lc_iEqSyntaxesLa A B (k + 1)))) ∧ (decide ((↑k : Int) < (↑(List.length (List.map syntaxC A)) : Int)) = false → A = B ∧ W0c_iEqSyntaxesLa A B = W0c_iEqSyntaxesLa A B)) := by
 kernel_rfl
theorem Sc_iEqSyntaxesLa (A : List Syntax) (B : List Syntax)  : LoopSem Try.prog (loopAt Try.f232 0) (Ic_iEqSyntaxesLa A B) (Yc_iEqSyntaxesLa A B) := by
  refine LoopSem.ofHead wide fun k h => ⟨_, _, run_c_iEqSyntaxesLa A B k, ?_⟩
  with_reducible repeat' (first | apply And.intro | exact flatI | exact flatS | exact rowLens | (intro; skip) | apply obsN | apply obsC | apply obA | apply obM | apply obB | apply svA | apply tupA | apply lcA | apply lcS | apply svC | apply liC | apply lbC | apply lsC | apply vIc | apply vBc | apply vSc | apply vLc | apply mapC | apply Hc_iEqSyntaxesLa | apply Ec_iEqSyntaxesLa | apply EW1c_iEqSyntaxesLa | apply c_iEqSyntax)
  all_goals (try simp only [std] at *)
  all_goals (try (first | with_reducible rfl | omega | assumption | (refine (decide_eq_true ?_).symm; assumption) | (refine (decide_eq_false ?_).symm; assumption) | (refine rowGet ?_; (first | omega | (simp only [std]; omega) | grind)) | (refine getC ?_ rfl; (first | omega | (simp only [std]; omega) | grind)) | (refine fill_step ?_ ?_; (first | omega | (simp only [std]; omega) | grind); (first | rfl | exact (Row.eq _).trans rfl)) | (refine fill_init ?_; (first | rfl | exact (Row.eq _).trans rfl)) | grind [take_eq, snocI, snocS, rowSnoc]))
theorem run_c_iEqSyntaxes (A : List Syntax) (B : List Syntax) : aexec Try.prog (Option.getD (Func.body Try.f232) Code.skip) (entry [] [ll (List.map syntaxC A), ll (List.map syntaxC
 B)] 27) [Orc.br [Orc.fin []] [Orc.ghost (Ghost.sel [] [0, 1, 12, 13]), Orc.loop (List.length A - 0) (Lc_iEqSyntaxesLa A B 0) (Ic_iEqSyntaxesLa A B) [(A = B, AEx.exit 0,
 W0c_iEqSyntaxesLa A B, [Orc.fin []]), (A ≠ B, AEx.ret, W1c_iEqSyntaxesLa A B (lb false), [Orc.fin []])]]] (finK Try.prog [ResultVar.tmp 4] [] (AV.sv (lb (decide (A = B))))) =
 (List.length (List.map syntaxC A) ≤ 9223372036854775807 → List.length (List.map syntaxC B) ≤ 9223372036854775807 → (decide ((↑(List.length (List.map syntaxC A)) : Int) ≠
 (↑(List.length (List.map syntaxC B)) : Int)) = true → ObsEq [] [] ∧ AV.sv (lb false) = AV.sv (lb (decide (A = B)))) ∧ (decide ((↑(List.length (List.map syntaxC A)) : Int) ≠
 (↑(List.length (List.map syntaxC B)) : Int)) = false → List.length (List.map syntaxC A) ≤ 9223372036854775807 → Tc_iEqSyntaxesLa A B (li 0) = Lc_iEqSyntaxesLa A B 0 ∧
 Ic_iEqSyntaxesLa A B (List.length A - 0) (Lc_iEqSyntaxesLa A B 0) ∧ LoopSem Try.prog (loopAt Try.f232 0) (Ic_iEqSyntaxesLa A B) (Yc_iEqSyntaxesLa A B) ∧ (A = B → ObsEq [] [] ∧
 AV.sv (lb true) = AV.sv (lb (decide (A = B)))) ∧ ((A = B → False) → ObsEq [] [] ∧ AV.sv (lb false) = AV.sv (lb (decide (A = B)))) ∧ True)) := by kernel_rfl
theorem c_iEqSyntaxes (A B : List Syntax)  : P_c_iEqSyntaxes A B := by
  refine CallOK.ofRun wide (run_c_iEqSyntaxes A B) Try.call232 Try.func232 rfl rfl rfl ?_
  with_reducible repeat' (first | apply And.intro | exact flatI | exact flatS | exact rowLens | (intro; skip) | apply obsN | apply obsC | apply obA | apply obM | apply obB | apply svA | apply tupA | apply lcA | apply lcS | apply svC | apply liC | apply lbC | apply lsC | apply vIc | apply vBc | apply vSc | apply vLc | apply mapC | apply Hc_iEqSyntaxesLa | apply Ec_iEqSyntaxesLa | apply Sc_iEqSyntaxesLa | apply EW1c_iEqSyntaxesLa | apply c_iEqSyntax)
  all_goals (try simp only [std] at *)
  all_goals (try (first | with_reducible rfl | omega | assumption | (refine (decide_eq_true ?_).symm; assumption) | (refine (decide_eq_false ?_).symm; assumption) | (refine rowGet ?_; (first | omega | (simp only [std]; omega) | grind)) | (refine getC ?_ rfl; (first | omega | (simp only [std]; omega) | grind)) | (refine fill_step ?_ ?_; (first | omega | (simp only [std]; omega) | grind); (first | rfl | exact (Row.eq _).trans rfl)) | (refine fill_init ?_; (first | rfl | exact (Row.eq _).trans rfl)) | grind [snocI, snocS, rowSnoc]))
abbrev P_c_iEqBindings (A : List Binding) (B : List Binding) : Prop := CallOK Try.prog 138 [] [ll (A.map bindingC), ll (B.map bindingC)] [] (.sv (lb (decide (A = B))))
def Tc_iEqBindingsLa (A : List Binding) (B : List Binding) (x0 : SV) : St := St.mk (regsOf 68 [(0, AV.sv (ll (List.map bindingC A))), (1, AV.sv (ll (List.map bindingC B))), (12,
 AV.sv (li (↑(List.length (List.map bindingC A)) : Int))), (13, AV.sv x0)]) [] 0 
def Lc_iEqBindingsLa (A : List Binding) (B : List Binding) (k : Nat) : St := Tc_iEqBindingsLa A B (li (↑k : Int)) 
def Ic_iEqBindingsLa (A : List Binding) (B : List Binding) : Nat → St → Prop := Head (Lc_iEqBindingsLa A B) (fun k => k ≤ List.length A ∧ List.length A ≤ 9223372036854775807 ∧
 List.length A = List.length B ∧ List.take k A = List.take k B) fun k => List.length A - k 
def W0c_iEqBindingsLa (A : List Binding) (B : List Binding) : St := St.mk (regsOf 68 []) [] 0 
def W1c_iEqBindingsLa (A : List Binding) (B : List Binding) (x0 : SV) : St := St.mk (regsOf 68 [(4, AV.sv x0)]) [] 0 
def Yc_iEqBindingsLa (A : List Binding) (B : List Binding) : List (Prop × AEx × St) := [(A = B, AEx.exit 0, W0c_iEqBindingsLa A B), (A ≠ B, AEx.ret, W1c_iEqBindingsLa A B (lb
 false))]
theorem Hc_iEqBindingsLa {A : List Binding} {B : List Binding} {k : Nat} {m : Nat} (h : (fun k => k ≤ List.length A ∧ List.length A ≤ 9223372036854775807 ∧ List.length A =
 List.length B ∧ List.take k A = List.take k B) k) (hm : (fun k => List.length A - k) k = m) : Ic_iEqBindingsLa A B m (Lc_iEqBindingsLa A B k) := hm ▸ Head.mk h
theorem Ec_iEqBindingsLa {A : List Binding} {B : List Binding} {k : Nat} {x0 : SV} (h0 : x0 = (li (↑k : Int))) : Tc_iEqBindingsLa A B x0 = Lc_iEqBindingsLa A B k := by
  rw [h0]
  rfl
theorem EW1c_iEqBindingsLa {A : List Binding} {B : List Binding} {x0 y0 : SV} (h0 : x0 = y0) : W1c_iEqBindingsLa A B x0 = W1c_iEqBindingsLa A B y0 := by rw [h0]
abbrev a1__iEqBindingsLa (A : List Binding) (k : Nat) := (0 ≤ (↑k : Int) ∧ (List.map bindingC A)[Int.toNat (↑k : Int)]? = some (bindingF (List.getD A k default)))
abbrev a2__iEqBindingsLa (B : List Binding) (k : Nat) := (0 ≤ (↑k : Int) ∧ (List.map bindingC B)[Int.toNat (↑k : Int)]? = some (bindingF (List.getD B k default)))
theorem run_c_iEqBindingsLa (A : List Binding) (B : List Binding) (k : Nat) : aexec Try.prog (loopAt Try.f138 0) (Lc_iEqBindingsLa A B k) [Orc.br [Orc.draw [], Orc.cells (bindingF
 (List.getD A k default)), Orc.cells (bindingF (List.getD B k default)), Orc.br [Orc.bool true, Orc.bool true, Orc.bool true, Orc.ghost (Ghost.sel [] [4]), Orc.out 1] [Orc.cells
 (bindingF (List.getD A k default)), Orc.cells (bindingF (List.getD B k default)), Orc.br [Orc.bool true, Orc.bool true, Orc.ghost (Ghost.sel [] [4]), Orc.out 1] [Orc.cells
 (bindingF (List.getD A k default)), Orc.cells (bindingF (List.getD B k default)), Orc.br [Orc.bool true, Orc.ghost (Ghost.sel [] [4]), Orc.out 1] [Orc.cells (bindingF (List.getD A
 k default)), Orc.cells (bindingF (List.getD B k default)), Orc.call [Mode.rd, Mode.rd] [] (AV.sv (lb (decide (Binding.scopes (List.getD A k default) = Binding.scopes (List.getD B
 k default))))), Orc.br [Orc.ghost (Ghost.sel [] [4]), Orc.out 1] [Orc.ghost (Ghost.sel [] [0, 1, 12, 13]), Orc.goto (List.length A - (k + 1)) (Lc_iEqBindingsLa A B (k + 1))]]]]]
 [Orc.ghost (Ghost.sel [] []), Orc.out 0]] (loopK (Ic_iEqBindingsLa A B) (Yc_iEqBindingsLa A B) (List.length A - k)) = ((decide ((↑k : Int) < (↑(List.length (List.map bindingC A))
 : Int)) = true → (a1__iEqBindingsLa A k) ∧ (a2__iEqBindingsLa B k) ∧ (decide (Array.toList (ByteArray.data (Binding.text (List.getD A k default))) ≠ Array.toList (ByteArray.data
 (Binding.text (List.getD B k default)))) = true → true = true ∧ true = true ∧ true = true ∧ A ≠ B ∧ W1c_iEqBindingsLa A B (lb false) = W1c_iEqBindingsLa A B (lb false)) ∧ (decide
 (Array.toList (ByteArray.data (Binding.text (List.getD A k default))) ≠ Array.toList (ByteArray.data (Binding.text (List.getD B k default)))) = false → (a1__iEqBindingsLa A k) ∧
 (a2__iEqBindingsLa B k) ∧ (decide (Binding.kind (List.getD A k default) ≠ Binding.kind (List.getD B k default)) = true → true = true ∧ true = true ∧ A ≠ B ∧ W1c_iEqBindingsLa A B
 (lb false) = W1c_iEqBindingsLa A B (lb false)) ∧ (decide (Binding.kind (List.getD A k default) ≠ Binding.kind (List.getD B k default)) = false → (a1__iEqBindingsLa A k) ∧
 (a2__iEqBindingsLa B k) ∧ (decide (Binding.number (List.getD A k default) ≠ Binding.number (List.getD B k default)) = true → true = true ∧ A ≠ B ∧ W1c_iEqBindingsLa A B (lb false)
 = W1c_iEqBindingsLa A B (lb false)) ∧ (decide (Binding.number (List.getD A k default) ≠ Binding.number (List.getD B k default)) = false → (a1__iEqBindingsLa A k) ∧
 (a2__iEqBindingsLa B k) ∧ P_c_iSameInts (Binding.scopes (List.getD A k default)) (Binding.scopes (List.getD B k default)) ∧ ((!decide (Binding.scopes (List.getD A k default) =
 Binding.scopes (List.getD B k default))) = true → A ≠ B ∧ W1c_iEqBindingsLa A B (lb false) = W1c_iEqBindingsLa A B (lb false)) ∧ ((!decide (Binding.scopes (List.getD A k default)
 = Binding.scopes (List.getD B k default))) = false → rng IntKind.i64 ((↑k : Int) + 1) ∧ List.length A - (k + 1) < List.length A - k ∧ Tc_iEqBindingsLa A B (li ((↑k : Int) + 1)) =
 Lc_iEqBindingsLa A B (k + 1) ∧ Ic_iEqBindingsLa A B (List.length A - (k + 1)) (Lc_iEqBindingsLa A B (k + 1))))))) ∧ (decide ((↑k : Int) < (↑(List.length (List.map bindingC A)) :
 Int)) = false → A = B ∧ W0c_iEqBindingsLa A B = W0c_iEqBindingsLa A B)) := by kernel_rfl
theorem Sc_iEqBindingsLa (A : List Binding) (B : List Binding)  : LoopSem Try.prog (loopAt Try.f138 0) (Ic_iEqBindingsLa A B) (Yc_iEqBindingsLa A B) := by
  refine LoopSem.ofHead wide fun k h => ⟨_, _, run_c_iEqBindingsLa A B k, ?_⟩
  try delta a1__iEqBindingsLa a2__iEqBindingsLa
  with_reducible repeat' (first | apply And.intro | exact flatI | exact flatS | exact rowLens | (intro; skip) | apply obsN | apply obsC | apply obA | apply obM | apply obB | apply svA | apply tupA | apply lcA | apply lcS | apply svC | apply liC | apply lbC | apply lsC | apply vIc | apply vBc | apply vSc | apply vLc | apply mapC | apply Hc_iEqBindingsLa | apply Ec_iEqBindingsLa | apply EW1c_iEqBindingsLa | apply c_iSameInts)
  all_goals (try simp only [std] at *)
  all_goals (try (first | with_reducible rfl | omega | assumption | (refine (decide_eq_true ?_).symm; assumption) | (refine (decide_eq_false ?_).symm; assumption) | (refine rowGet ?_; (first | omega | (simp only [std]; omega) | grind)) | (refine getC ?_ rfl; (first | omega | (simp only [std]; omega) | grind)) | (refine fill_step ?_ ?_; (first | omega | (simp only [std]; omega) | grind); (first | rfl | exact (Row.eq _).trans rfl)) | (refine fill_init ?_; (first | rfl | exact (Row.eq _).trans rfl)) | grind [take_eq, bindingExt, bytes_ext, snocI, snocS, rowSnoc]))
theorem run_c_iEqBindings (A : List Binding) (B : List Binding) : aexec Try.prog (Option.getD (Func.body Try.f138) Code.skip) (entry [] [ll (List.map bindingC A), ll (List.map
 bindingC B)] 68) [Orc.br [Orc.fin []] [Orc.ghost (Ghost.sel [] [0, 1, 12, 13]), Orc.loop (List.length A - 0) (Lc_iEqBindingsLa A B 0) (Ic_iEqBindingsLa A B) [(A = B, AEx.exit 0,
 W0c_iEqBindingsLa A B, [Orc.fin []]), (A ≠ B, AEx.ret, W1c_iEqBindingsLa A B (lb false), [Orc.fin []])]]] (finK Try.prog [ResultVar.tmp 4] [] (AV.sv (lb (decide (A = B))))) =
 (List.length (List.map bindingC A) ≤ 9223372036854775807 → List.length (List.map bindingC B) ≤ 9223372036854775807 → (decide ((↑(List.length (List.map bindingC A)) : Int) ≠
 (↑(List.length (List.map bindingC B)) : Int)) = true → ObsEq [] [] ∧ AV.sv (lb false) = AV.sv (lb (decide (A = B)))) ∧ (decide ((↑(List.length (List.map bindingC A)) : Int) ≠
 (↑(List.length (List.map bindingC B)) : Int)) = false → List.length (List.map bindingC A) ≤ 9223372036854775807 → Tc_iEqBindingsLa A B (li 0) = Lc_iEqBindingsLa A B 0 ∧
 Ic_iEqBindingsLa A B (List.length A - 0) (Lc_iEqBindingsLa A B 0) ∧ LoopSem Try.prog (loopAt Try.f138 0) (Ic_iEqBindingsLa A B) (Yc_iEqBindingsLa A B) ∧ (A = B → ObsEq [] [] ∧
 AV.sv (lb true) = AV.sv (lb (decide (A = B)))) ∧ ((A = B → False) → ObsEq [] [] ∧ AV.sv (lb false) = AV.sv (lb (decide (A = B)))) ∧ True)) := by kernel_rfl
theorem c_iEqBindings (A B : List Binding)  : P_c_iEqBindings A B := by
  refine CallOK.ofRun wide (run_c_iEqBindings A B) Try.call138 Try.func138 rfl rfl rfl ?_
  with_reducible repeat' (first | apply And.intro | exact flatI | exact flatS | exact rowLens | (intro; skip) | apply obsN | apply obsC | apply obA | apply obM | apply obB | apply svA | apply tupA | apply lcA | apply lcS | apply svC | apply liC | apply lbC | apply lsC | apply vIc | apply vBc | apply vSc | apply vLc | apply mapC | apply Hc_iEqBindingsLa | apply Ec_iEqBindingsLa | apply Sc_iEqBindingsLa | apply EW1c_iEqBindingsLa | apply c_iSameInts)
  all_goals (try simp only [std] at *)
  all_goals (try (first | with_reducible rfl | omega | assumption | (refine (decide_eq_true ?_).symm; assumption) | (refine (decide_eq_false ?_).symm; assumption) | (refine rowGet ?_; (first | omega | (simp only [std]; omega) | grind)) | (refine getC ?_ rfl; (first | omega | (simp only [std]; omega) | grind)) | (refine fill_step ?_ ?_; (first | omega | (simp only [std]; omega) | grind); (first | rfl | exact (Row.eq _).trans rfl)) | (refine fill_init ?_; (first | rfl | exact (Row.eq _).trans rfl)) | grind [snocI, snocS, rowSnoc]))
abbrev P_c_iEqRules (x : Rules) (y : Rules) : Prop := CallOK Try.prog 139 [] [rulesA x, rulesA y] [] (.sv (lb (decide (x = y))))
theorem run_c_iEqRules (x : Rules) (y : Rules) : aexec Try.prog (Option.getD (Func.body Try.f139) Code.skip) (entry [] [rulesA x, rulesA y] 24) [Orc.call [Mode.rd, Mode.rd] []
 (AV.sv (lb (decide (Rules.literals x = Rules.literals y)))), Orc.br [Orc.call [Mode.rd, Mode.rd] [] (AV.sv (lb (decide (Rules.patterns x = Rules.patterns y)))), Orc.br [Orc.call
 [Mode.rd, Mode.rd] [] (AV.sv (lb (decide (Rules.templates x = Rules.templates y)))), Orc.fin []] [Orc.fin []]] [Orc.bool false, Orc.fin []]] (finK Try.prog [ResultVar.tmp 4] []
 (AV.sv (lb (decide (x = y))))) = (P_c_iEqSyntaxes (Rules.literals x) (Rules.literals y) ∧ (decide (Rules.literals x = Rules.literals y) = true → P_c_iEqSyntaxes (Rules.patterns x)
 (Rules.patterns y) ∧ (decide (Rules.patterns x = Rules.patterns y) = true → P_c_iEqSyntaxes (Rules.templates x) (Rules.templates y) ∧ ObsEq [] [] ∧ AV.sv (lb (decide
 (Rules.templates x = Rules.templates y))) = AV.sv (lb (decide (x = y)))) ∧ (decide (Rules.patterns x = Rules.patterns y) = false → ObsEq [] [] ∧ AV.sv (lb false) = AV.sv (lb
 (decide (x = y))))) ∧ (decide (Rules.literals x = Rules.literals y) = false → false = false ∧ ObsEq [] [] ∧ AV.sv (lb false) = AV.sv (lb (decide (x = y))))) := by kernel_rfl
theorem c_iEqRules (x y : Rules)  : P_c_iEqRules x y := by
  refine CallOK.ofRun wide (run_c_iEqRules x y) Try.call139 Try.func139 rfl rfl rfl ?_
  simp only [rulesExt]
  with_reducible repeat' (first | apply And.intro | exact flatI | exact flatS | exact rowLens | (intro; skip) | apply obsN | apply obsC | apply obA | apply obM | apply obB | apply svA | apply tupA | apply lcA | apply lcS | apply svC | apply liC | apply lbC | apply lsC | apply vIc | apply vBc | apply vSc | apply vLc | apply mapC | apply c_iEqSyntaxes)
  all_goals (try simp only [std] at *)
  all_goals (try (first | with_reducible rfl | omega | assumption | (refine (decide_eq_true ?_).symm; assumption) | (refine (decide_eq_false ?_).symm; assumption) | (refine rowGet ?_; (first | omega | (simp only [std]; omega) | grind)) | (refine getC ?_ rfl; (first | omega | (simp only [std]; omega) | grind)) | (refine fill_step ?_ ?_; (first | omega | (simp only [std]; omega) | grind); (first | rfl | exact (Row.eq _).trans rfl)) | (refine fill_init ?_; (first | rfl | exact (Row.eq _).trans rfl)) | grind [snocI, snocS, rowSnoc]))
abbrev P_c_iEqExpanders (x : Expander) (y : Expander) : Prop := CallOK Try.prog 41 [] [expanderA x, expanderA y] [] (.sv (lb (decide (x = y))))
def Tc_iEqExpandersLa (x : Expander) (y : Expander) (x0 : SV) : St := St.mk (regsOf 61 [(2, AV.sv (SV.one (AC.ptr 0 0))), (3, AV.sv (SV.one (AC.ptr 1 0))), (44, AV.sv (li
 (↑(List.length (List.map rulesC (Expander.macros x))) : Int))), (45, AV.sv x0)]) [Ob.box (vals (expanderF x)), Ob.box (vals (expanderF y))] 0 
def Lc_iEqExpandersLa (x : Expander) (y : Expander) (k : Nat) : St := Tc_iEqExpandersLa x y (li (↑k : Int)) 
def Ic_iEqExpandersLa (x : Expander) (y : Expander) : Nat → St → Prop := Head (Lc_iEqExpandersLa x y) (fun k => k ≤ List.length (Expander.macros x) ∧ List.length (Expander.macros
 x) ≤ 9223372036854775807 ∧ List.length (Expander.macros x) = List.length (Expander.macros y) ∧ List.take k (Expander.macros x) = List.take k (Expander.macros y)) fun k =>
 List.length (Expander.macros x) - k 
def W0c_iEqExpandersLa (x : Expander) (y : Expander) : St := St.mk (regsOf 61 []) [] 0 
def W1c_iEqExpandersLa (x : Expander) (y : Expander) (x0 : SV) : St := St.mk (regsOf 61 [(4, AV.sv x0)]) [] 0 
def Yc_iEqExpandersLa (x : Expander) (y : Expander) : List (Prop × AEx × St) := [(Expander.macros x = Expander.macros y, AEx.exit 0, W0c_iEqExpandersLa x y), (Expander.macros x ≠
 Expander.macros y, AEx.ret, W1c_iEqExpandersLa x y (lb false))]
theorem Hc_iEqExpandersLa {x : Expander} {y : Expander} {k : Nat} {m : Nat} (h : (fun k => k ≤ List.length (Expander.macros x) ∧ List.length (Expander.macros x) ≤
 9223372036854775807 ∧ List.length (Expander.macros x) = List.length (Expander.macros y) ∧ List.take k (Expander.macros x) = List.take k (Expander.macros y)) k) (hm : (fun k =>
 List.length (Expander.macros x) - k) k = m) : Ic_iEqExpandersLa x y m (Lc_iEqExpandersLa x y k) := hm ▸ Head.mk h
theorem Ec_iEqExpandersLa {x : Expander} {y : Expander} {k : Nat} {x0 : SV} (h0 : x0 = (li (↑k : Int))) : Tc_iEqExpandersLa x y x0 = Lc_iEqExpandersLa x y k := by
  rw [h0]
  rfl
theorem EW1c_iEqExpandersLa {x : Expander} {y : Expander} {x0 y0 : SV} (h0 : x0 = y0) : W1c_iEqExpandersLa x y x0 = W1c_iEqExpandersLa x y y0 := by rw [h0]
theorem run_c_iEqExpandersLa (x : Expander) (y : Expander) (k : Nat) : aexec Try.prog (loopAt Try.f41 0) (Lc_iEqExpandersLa x y k) [Orc.br [Orc.draw [], Orc.cells (rulesF
 (List.getD (Expander.macros x) k default)), Orc.cells (rulesF (List.getD (Expander.macros y) k default)), Orc.call [Mode.rd, Mode.rd] [] (AV.sv (lb (decide (List.getD
 (Expander.macros x) k default = List.getD (Expander.macros y) k default)))), Orc.br [Orc.ghost (Ghost.sel [] [4]), Orc.out 1] [Orc.ghost (Ghost.sel [0, 1] [2, 3, 44, 45]),
 Orc.goto (List.length (Expander.macros x) - (k + 1)) (Lc_iEqExpandersLa x y (k + 1))]] [Orc.ghost (Ghost.sel [] []), Orc.out 0]] (loopK (Ic_iEqExpandersLa x y) (Yc_iEqExpandersLa
 x y) (List.length (Expander.macros x) - k)) = ((decide ((↑k : Int) < (↑(List.length (List.map rulesC (Expander.macros x))) : Int)) = true → (0 ≤ (↑k : Int) ∧ (List.map rulesC
 (Expander.macros x))[Int.toNat (↑k : Int)]? = some (rulesF (List.getD (Expander.macros x) k default))) ∧ (0 ≤ (↑k : Int) ∧ (List.map rulesC (Expander.macros y))[Int.toNat (↑k :
 Int)]? = some (rulesF (List.getD (Expander.macros y) k default))) ∧ P_c_iEqRules (List.getD (Expander.macros x) k default) (List.getD (Expander.macros y) k default) ∧ ((!decide
 (List.getD (Expander.macros x) k default = List.getD (Expander.macros y) k default)) = true → Expander.macros x ≠ Expander.macros y ∧ W1c_iEqExpandersLa x y (lb false) =
 W1c_iEqExpandersLa x y (lb false)) ∧ ((!decide (List.getD (Expander.macros x) k default = List.getD (Expander.macros y) k default)) = false → rng IntKind.i64 ((↑k : Int) + 1) ∧
 List.length (Expander.macros x) - (k + 1) < List.length (Expander.macros x) - k ∧ Tc_iEqExpandersLa x y (li ((↑k : Int) + 1)) = Lc_iEqExpandersLa x y (k + 1) ∧ Ic_iEqExpandersLa x
 y (List.length (Expander.macros x) - (k + 1)) (Lc_iEqExpandersLa x y (k + 1)))) ∧ (decide ((↑k : Int) < (↑(List.length (List.map rulesC (Expander.macros x))) : Int)) = false →
 Expander.macros x = Expander.macros y ∧ W0c_iEqExpandersLa x y = W0c_iEqExpandersLa x y)) := by kernel_rfl
theorem Sc_iEqExpandersLa (x : Expander) (y : Expander)  : LoopSem Try.prog (loopAt Try.f41 0) (Ic_iEqExpandersLa x y) (Yc_iEqExpandersLa x y) := by
  refine LoopSem.ofHead wide fun k h => ⟨_, _, run_c_iEqExpandersLa x y k, ?_⟩
  with_reducible repeat' (first | apply And.intro | exact flatI | exact flatS | exact rowLens | (intro; skip) | apply obsN | apply obsC | apply obA | apply obM | apply obB | apply svA | apply tupA | apply lcA | apply lcS | apply svC | apply liC | apply lbC | apply lsC | apply vIc | apply vBc | apply vSc | apply vLc | apply mapC | apply Hc_iEqExpandersLa | apply Ec_iEqExpandersLa | apply EW1c_iEqExpandersLa | apply c_iEqBindings | apply c_iEqRules)
  all_goals (try simp only [std] at *)
  all_goals (try (first | with_reducible rfl | omega | assumption | (refine (decide_eq_true ?_).symm; assumption) | (refine (decide_eq_false ?_).symm; assumption) | (refine rowGet ?_; (first | omega | (simp only [std]; omega) | grind)) | (refine getC ?_ rfl; (first | omega | (simp only [std]; omega) | grind)) | (refine fill_step ?_ ?_; (first | omega | (simp only [std]; omega) | grind); (first | rfl | exact (Row.eq _).trans rfl)) | (refine fill_init ?_; (first | rfl | exact (Row.eq _).trans rfl)) | grind [take_eq, snocI, snocS, rowSnoc]))
theorem run_c_iEqExpanders (x : Expander) (y : Expander) : aexec Try.prog (Option.getD (Func.body Try.f41) Code.skip) (entry [] [expanderA x, expanderA y] 61) [Orc.call [Mode.rd,
 Mode.rd] [] (AV.sv (lb (decide (Expander.bindings x = Expander.bindings y)))), Orc.br [Orc.bool true, Orc.bool true, Orc.bool true, Orc.bool true, Orc.fin []] [Orc.br [Orc.bool
 true, Orc.bool true, Orc.bool true, Orc.fin []] [Orc.br [Orc.bool true, Orc.bool true, Orc.fin []] [Orc.br [Orc.bool true, Orc.fin []] [Orc.br [Orc.fin []] [Orc.ghost (Ghost.sel
 [0, 1] [2, 3, 44, 45]), Orc.loop (List.length (Expander.macros x) - 0) (Lc_iEqExpandersLa x y 0) (Ic_iEqExpandersLa x y) [(Expander.macros x = Expander.macros y, AEx.exit 0,
 W0c_iEqExpandersLa x y, [Orc.fin []]), (Expander.macros x ≠ Expander.macros y, AEx.ret, W1c_iEqExpandersLa x y (lb false), [Orc.fin []])]]]]]]] (finK Try.prog [ResultVar.tmp 4] []
 (AV.sv (lb (decide (x = y))))) = (P_c_iEqBindings (Expander.bindings x) (Expander.bindings y) ∧ ((!decide (Expander.bindings x = Expander.bindings y)) = true → true = true ∧ true
 = true ∧ true = true ∧ true = true ∧ ObsEq [] [] ∧ AV.sv (lb false) = AV.sv (lb (decide (x = y)))) ∧ ((!decide (Expander.bindings x = Expander.bindings y)) = false → List.length
 (List.map rulesC (Expander.macros x)) ≤ 9223372036854775807 → List.length (List.map rulesC (Expander.macros y)) ≤ 9223372036854775807 → (decide ((↑(List.length (List.map rulesC
 (Expander.macros x))) : Int) ≠ (↑(List.length (List.map rulesC (Expander.macros y))) : Int)) = true → true = true ∧ true = true ∧ true = true ∧ ObsEq [] [] ∧ AV.sv (lb false) =
 AV.sv (lb (decide (x = y)))) ∧ (decide ((↑(List.length (List.map rulesC (Expander.macros x))) : Int) ≠ (↑(List.length (List.map rulesC (Expander.macros y))) : Int)) = false →
 (decide (Expander.scope x ≠ Expander.scope y) = true → true = true ∧ true = true ∧ ObsEq [] [] ∧ AV.sv (lb false) = AV.sv (lb (decide (x = y)))) ∧ (decide (Expander.scope x ≠
 Expander.scope y) = false → (decide (Expander.vari x ≠ Expander.vari y) = true → true = true ∧ ObsEq [] [] ∧ AV.sv (lb false) = AV.sv (lb (decide (x = y)))) ∧ (decide
 (Expander.vari x ≠ Expander.vari y) = false → (decide (Expander.steps x ≠ Expander.steps y) = true → ObsEq [] [] ∧ AV.sv (lb false) = AV.sv (lb (decide (x = y)))) ∧ (decide
 (Expander.steps x ≠ Expander.steps y) = false → List.length (List.map rulesC (Expander.macros x)) ≤ 9223372036854775807 → Tc_iEqExpandersLa x y (li 0) = Lc_iEqExpandersLa x y 0 ∧
 Ic_iEqExpandersLa x y (List.length (Expander.macros x) - 0) (Lc_iEqExpandersLa x y 0) ∧ LoopSem Try.prog (loopAt Try.f41 0) (Ic_iEqExpandersLa x y) (Yc_iEqExpandersLa x y) ∧
 (Expander.macros x = Expander.macros y → ObsEq [] [] ∧ AV.sv (lb true) = AV.sv (lb (decide (x = y)))) ∧ ((Expander.macros x = Expander.macros y → False) → ObsEq [] [] ∧ AV.sv (lb
 false) = AV.sv (lb (decide (x = y)))) ∧ True)))))) := by kernel_rfl
theorem c_iEqExpanders (x y : Expander)  : P_c_iEqExpanders x y := by
  refine CallOK.ofRun wide (run_c_iEqExpanders x y) Try.call41 Try.func41 rfl rfl rfl ?_
  simp only [expanderExt]
  with_reducible repeat' (first | apply And.intro | exact flatI | exact flatS | exact rowLens | (intro; skip) | apply obsN | apply obsC | apply obA | apply obM | apply obB | apply svA | apply tupA | apply lcA | apply lcS | apply svC | apply liC | apply lbC | apply lsC | apply vIc | apply vBc | apply vSc | apply vLc | apply mapC | apply Hc_iEqExpandersLa | apply Ec_iEqExpandersLa | apply Sc_iEqExpandersLa | apply EW1c_iEqExpandersLa | apply c_iEqBindings | apply c_iEqRules)
  all_goals (try simp only [std] at *)
  all_goals (try (first | with_reducible rfl | omega | assumption | (refine (decide_eq_true ?_).symm; assumption) | (refine (decide_eq_false ?_).symm; assumption) | (refine rowGet ?_; (first | omega | (simp only [std]; omega) | grind)) | (refine getC ?_ rfl; (first | omega | (simp only [std]; omega) | grind)) | (refine fill_step ?_ ?_; (first | omega | (simp only [std]; omega) | grind); (first | rfl | exact (Row.eq _).trans rfl)) | (refine fill_init ?_; (first | rfl | exact (Row.eq _).trans rfl)) | grind [snocI, snocS, rowSnoc]))
end Go.Proofs.Ytehpjofddjmbpaa
end
section
namespace Go.Proofs.Ytehpjofddjmbpaa
open Go Go.Proofs.Ytehpjofddjmbpaa.Ab
set_option linter.unusedVariables false
set_option linter.unusedSimpArgs false
set_option maxHeartbeats 4000000
abbrev P_c_szIntS (L : List Int) (left : Int) : Prop := CallOK Try.prog 149 [] [ll (L.map intC), li left] [] (.sv (li (sz L.length left)))
theorem run_c_szIntS (L : List Int) (left : Int) : aexec Try.prog (Option.getD (Func.body Try.f149) Code.skip) (entry [] [ll (List.map intC L), li left] 12) [Orc.br [Orc.fin []]
 [Orc.fin []]] (finK Try.prog [ResultVar.tmp 4] [] (AV.sv (li (sz (List.length L) left)))) = (List.length (List.map intC L) ≤ 9223372036854775807 → rng IntKind.i64 (left -
 (↑(List.length (List.map intC L)) : Int)) ∧ (decide (left - (↑(List.length (List.map intC L)) : Int) < 0) = true → ObsEq [] [] ∧ AV.sv (li (-1 : Int)) = AV.sv (li (sz (List.length
 L) left))) ∧ (decide (left - (↑(List.length (List.map intC L)) : Int) < 0) = false → ObsEq [] [] ∧ AV.sv (li (left - (↑(List.length (List.map intC L)) : Int))) = AV.sv (li (sz
 (List.length L) left)))) := by kernel_rfl
theorem c_szIntS (L : List Int) (left : Int) (h0 : 0 ≤ left) (h : left ≤ 2147483647)  : P_c_szIntS L left := by
  refine CallOK.ofRun wide (run_c_szIntS L left) Try.call149 Try.func149 rfl rfl rfl ?_
  with_reducible repeat' (first | apply And.intro | exact flatI | exact flatS | exact rowLens | (intro; skip) | apply obsN | apply obsC | apply obA | apply obM | apply obB | apply svA | apply tupA | apply lcA | apply lcS | apply svC | apply liC | apply lbC | apply lsC | apply vIc | apply vBc | apply vSc | apply vLc | apply mapC)
  all_goals (try simp only [std] at *)
  all_goals (try (first | with_reducible rfl | omega | assumption | (refine (decide_eq_true ?_).symm; assumption) | (refine (decide_eq_false ?_).symm; assumption) | (refine rowGet ?_; (first | omega | (simp only [std]; omega) | grind)) | (refine getC ?_ rfl; (first | omega | (simp only [std]; omega) | grind)) | (refine fill_step ?_ ?_; (first | omega | (simp only [std]; omega) | grind); (first | rfl | exact (Row.eq _).trans rfl)) | (refine fill_init ?_; (first | rfl | exact (Row.eq _).trans rfl)) | grind [sz, snocI, snocS, rowSnoc]))
abbrev P_c_szSyntaxS (L : List Syntax) (left : Int) : Prop := CallOK Try.prog 84 [] [ll (L.map syntaxC), li left] [] (.sv (li (sz (L.length + sumBy wY L) left)))
abbrev P_c_szSyntax (x : Syntax) (left : Int) : Prop := CallOK Try.prog 51 [] [syntaxA x, li left] [] (.sv (li (sz (wY x) left)))
def Tc_szSyntaxSLa (L : List Syntax) (left : Int) (x0 : SV) (x1 : SV) : St := St.mk (regsOf 27 [(0, AV.sv (ll (List.map syntaxC L))), (1, AV.sv x1), (5, AV.sv x0)]) [] 0 
def Lc_szSyntaxSLa (L : List Syntax) (left : Int) (k : Nat × Int) : St := Tc_szSyntaxSLa L left (li (↑(Prod.fst k) : Int)) (li (Prod.snd k)) 
def Ic_szSyntaxSLa (L : List Syntax) (left : Int) : Nat → St → Prop := Head (Lc_szSyntaxSLa L left) (fun k => Prod.fst k ≤ List.length L ∧ List.length L ≤ 9223372036854775807 ∧ 0 ≤
 Prod.snd k ∧ Prod.snd k ≤ left ∧ sz (sumBy wY (List.drop (Prod.fst k) L)) (Prod.snd k) = sz (List.length L + sumBy wY L) left) fun k => List.length L - Prod.fst k 
def W0c_szSyntaxSLa (L : List Syntax) (left : Int) (x0 : SV) : St := St.mk (regsOf 27 [(1, AV.sv x0)]) [] 0 
def W1c_szSyntaxSLa (L : List Syntax) (left : Int) (x0 : SV) : St := St.mk (regsOf 27 [(4, AV.sv x0)]) [] 0 
def Yc_szSyntaxSLa (L : List Syntax) (left : Int) : List (Prop × AEx × St) := [(0 ≤ sz (List.length L + sumBy wY L) left, AEx.exit 0, W0c_szSyntaxSLa L left (li (sz (List.length L
 + sumBy wY L) left))), (sz (List.length L + sumBy wY L) left = (-1 : Int), AEx.ret, W1c_szSyntaxSLa L left (li (-1 : Int)))]
theorem Hc_szSyntaxSLa {L : List Syntax} {left : Int} {k : Nat × Int} {m : Nat} (h : (fun k => Prod.fst k ≤ List.length L ∧ List.length L ≤ 9223372036854775807 ∧ 0 ≤ Prod.snd k ∧
 Prod.snd k ≤ left ∧ sz (sumBy wY (List.drop (Prod.fst k) L)) (Prod.snd k) = sz (List.length L + sumBy wY L) left) k) (hm : (fun k => List.length L - Prod.fst k) k = m) :
 Ic_szSyntaxSLa L left m (Lc_szSyntaxSLa L left k) := hm ▸ Head.mk h
theorem Ec_szSyntaxSLa {L : List Syntax} {left : Int} {k : Nat × Int} {x0 : SV} {x1 : SV} (h0 : x0 = (li (↑(Prod.fst k) : Int))) (h1 : x1 = (li (Prod.snd k))) : Tc_szSyntaxSLa L
 left x0 x1 = Lc_szSyntaxSLa L left k := by
  rw [h0, h1]
  rfl
theorem EW0c_szSyntaxSLa {L : List Syntax} {left : Int} {x0 y0 : SV} (h0 : x0 = y0) : W0c_szSyntaxSLa L left x0 = W0c_szSyntaxSLa L left y0 := by rw [h0]
theorem EW1c_szSyntaxSLa {L : List Syntax} {left : Int} {x0 y0 : SV} (h0 : x0 = y0) : W1c_szSyntaxSLa L left x0 = W1c_szSyntaxSLa L left y0 := by rw [h0]
theorem run_c_szSyntaxSLa (L : List Syntax) (left : Int) (k : Nat × Int) : aexec Try.prog (loopAt Try.f84 0) (Lc_szSyntaxSLa L left k) [Orc.br [Orc.cells (syntaxF (List.getD L
 (Prod.fst k) default)), Orc.call [Mode.rd, Mode.rd] [] (AV.sv (li (sz (wY (List.getD L (Prod.fst k) default)) (Prod.snd k)))), Orc.br [Orc.ghost (Ghost.sel [] [4]), Orc.out 1]
 [Orc.ghost (Ghost.sel [] [0, 1, 5]), Orc.goto (List.length L - (Prod.fst k + 1)) (Lc_szSyntaxSLa L left (Prod.fst k + 1, sz (wY (List.getD L (Prod.fst k) default)) (Prod.snd
 k)))]] [Orc.ghost (Ghost.sel [] [1]), Orc.out 0]] (loopK (Ic_szSyntaxSLa L left) (Yc_szSyntaxSLa L left) (List.length L - Prod.fst k)) = (List.length (List.map syntaxC L) ≤
 9223372036854775807 → (decide ((↑(Prod.fst k) : Int) < (↑(List.length (List.map syntaxC L)) : Int)) = true → (0 ≤ (↑(Prod.fst k) : Int) ∧ (List.map syntaxC L)[Int.toNat
 (↑(Prod.fst k) : Int)]? = some (syntaxF (List.getD L (Prod.fst k) default))) ∧ P_c_szSyntax (List.getD L (Prod.fst k) default) (Prod.snd k) ∧ (decide (sz (wY (List.getD L
 (Prod.fst k) default)) (Prod.snd k) < 0) = true → sz (List.length L + sumBy wY L) left = (-1 : Int) ∧ W1c_szSyntaxSLa L left (li (-1 : Int)) = W1c_szSyntaxSLa L left (li (-1 :
 Int))) ∧ (decide (sz (wY (List.getD L (Prod.fst k) default)) (Prod.snd k) < 0) = false → rng IntKind.i64 ((↑(Prod.fst k) : Int) + 1) ∧ List.length L - (Prod.fst k + 1) <
 List.length L - Prod.fst k ∧ Tc_szSyntaxSLa L left (li ((↑(Prod.fst k) : Int) + 1)) (li (sz (wY (List.getD L (Prod.fst k) default)) (Prod.snd k))) = Lc_szSyntaxSLa L left
 (Prod.fst k + 1, sz (wY (List.getD L (Prod.fst k) default)) (Prod.snd k)) ∧ Ic_szSyntaxSLa L left (List.length L - (Prod.fst k + 1)) (Lc_szSyntaxSLa L left (Prod.fst k + 1, sz (wY
 (List.getD L (Prod.fst k) default)) (Prod.snd k))))) ∧ (decide ((↑(Prod.fst k) : Int) < (↑(List.length (List.map syntaxC L)) : Int)) = false → 0 ≤ sz (List.length L + sumBy wY L)
 left ∧ W0c_szSyntaxSLa L left (li (Prod.snd k)) = W0c_szSyntaxSLa L left (li (sz (List.length L + sumBy wY L) left)))) := by kernel_rfl
theorem Sc_szSyntaxSLa (L : List Syntax) (left : Int) (h0 : 0 ≤ left) (h : left ≤ 2147483647) (ih : ∀ (x : Syntax), x ∈ L → ∀ (left : Int), 0 ≤ left → left ≤ 2147483647 →
 P_c_szSyntax x left)  : LoopSem Try.prog (loopAt Try.f84 0) (Ic_szSyntaxSLa L left) (Yc_szSyntaxSLa L left) := by
  refine LoopSem.ofHead wide fun k h => ⟨_, _, run_c_szSyntaxSLa L left k, ?_⟩
  obtain ⟨i, n⟩ := k
  simp only at *
  with_reducible repeat' (first | apply And.intro | exact flatI | exact flatS | exact rowLens | exact ih | (intro; skip) | apply obsN | apply obsC | apply obA | apply obM | apply obB | apply svA | apply tupA | apply lcA | apply lcS | apply svC | apply liC | apply lbC | apply lsC | apply vIc | apply vBc | apply vSc | apply vLc | apply mapC | apply Hc_szSyntaxSLa | apply Ec_szSyntaxSLa | apply EW0c_szSyntaxSLa | apply EW1c_szSyntaxSLa | apply ih)
  all_goals (try simp only [std] at *)
  all_goals (try (first | with_reducible rfl | omega | assumption | (refine (decide_eq_true ?_).symm; assumption) | (refine (decide_eq_false ?_).symm; assumption) | (refine rowGet ?_; (first | omega | (simp only [std]; omega) | grind)) | (refine getC ?_ rfl; (first | omega | (simp only [std]; omega) | grind)) | (refine fill_step ?_ ?_; (first | omega | (simp only [std]; omega) | grind); (first | rfl | exact (Row.eq _).trans rfl)) | (refine fill_init ?_; (first | rfl | exact (Row.eq _).trans rfl)) | grind [drop_get, sumBy, sz, getD_mem', snocI, snocS, rowSnoc]))
theorem run_c_szSyntaxS (L : List Syntax) (left : Int) : aexec Try.prog (Option.getD (Func.body Try.f84) Code.skip) (entry [] [ll (List.map syntaxC L), li left] 27) [Orc.br
 [Orc.fin []] [Orc.ghost (Ghost.sel [] [0, 1, 5]), Orc.loop (List.length L - 0) (Lc_szSyntaxSLa L left (0, left - (↑(List.length L) : Int))) (Ic_szSyntaxSLa L left) [(0 ≤ sz
 (List.length L + sumBy wY L) left, AEx.exit 0, W0c_szSyntaxSLa L left (li (sz (List.length L + sumBy wY L) left)), [Orc.fin []]), (sz (List.length L + sumBy wY L) left = (-1 :
 Int), AEx.ret, W1c_szSyntaxSLa L left (li (-1 : Int)), [Orc.fin []])]]] (finK Try.prog [ResultVar.tmp 4] [] (AV.sv (li (sz (List.length L + sumBy wY L) left)))) = (List.length
 (List.map syntaxC L) ≤ 9223372036854775807 → rng IntKind.i64 (left - (↑(List.length (List.map syntaxC L)) : Int)) ∧ (decide (left - (↑(List.length (List.map syntaxC L)) : Int) <
 0) = true → ObsEq [] [] ∧ AV.sv (li (-1 : Int)) = AV.sv (li (sz (List.length L + sumBy wY L) left))) ∧ (decide (left - (↑(List.length (List.map syntaxC L)) : Int) < 0) = false →
 Tc_szSyntaxSLa L left (li 0) (li (left - (↑(List.length (List.map syntaxC L)) : Int))) = Lc_szSyntaxSLa L left (0, left - (↑(List.length L) : Int)) ∧ Ic_szSyntaxSLa L left
 (List.length L - 0) (Lc_szSyntaxSLa L left (0, left - (↑(List.length L) : Int))) ∧ LoopSem Try.prog (loopAt Try.f84 0) (Ic_szSyntaxSLa L left) (Yc_szSyntaxSLa L left) ∧
 (Int.NonNeg (sz (List.length L + sumBy wY L) left - 0) → ObsEq [] [] ∧ AV.sv (li (sz (List.length L + sumBy wY L) left)) = AV.sv (li (sz (List.length L + sumBy wY L) left))) ∧ (sz
 (List.length L + sumBy wY L) left = (-1 : Int) → ObsEq [] [] ∧ AV.sv (li (-1 : Int)) = AV.sv (li (sz (List.length L + sumBy wY L) left))) ∧ True)) := by kernel_rfl
theorem c_szSyntaxS (L : List Syntax) (left : Int) (h0 : 0 ≤ left) (h : left ≤ 2147483647) (ih : ∀ x ∈ L, ∀ (left : Int) (h0 : 0 ≤ left) (h : left ≤ 2147483647), P_c_szSyntax x
 left)  : P_c_szSyntaxS L left := by
  refine CallOK.ofRun wide (run_c_szSyntaxS L left) Try.call84 Try.func84 rfl rfl rfl ?_
  with_reducible repeat' (first | apply And.intro | exact flatI | exact flatS | exact rowLens | exact ih | (intro; skip) | apply obsN | apply obsC | apply obA | apply obM | apply obB | apply svA | apply tupA | apply lcA | apply lcS | apply svC | apply liC | apply lbC | apply lsC | apply vIc | apply vBc | apply vSc | apply vLc | apply mapC | apply Hc_szSyntaxSLa | apply Ec_szSyntaxSLa | apply Sc_szSyntaxSLa | apply EW0c_szSyntaxSLa | apply EW1c_szSyntaxSLa)
  all_goals (try simp only [std] at *)
  all_goals (try (first | with_reducible rfl | omega | assumption | (refine (decide_eq_true ?_).symm; assumption) | (refine (decide_eq_false ?_).symm; assumption) | (refine rowGet ?_; (first | omega | (simp only [std]; omega) | grind)) | (refine getC ?_ rfl; (first | omega | (simp only [std]; omega) | grind)) | (refine fill_step ?_ ?_; (first | omega | (simp only [std]; omega) | grind); (first | rfl | exact (Row.eq _).trans rfl)) | (refine fill_init ?_; (first | rfl | exact (Row.eq _).trans rfl)) | grind [sz, snocI, snocS, rowSnoc]))
theorem run_c_szSyntax_s (x : Syntax) (left : Int) : aexec Try.prog (Option.getD (Func.body Try.f51) Code.skip) (entry [] [syntaxA x, li left] 25) [Orc.br [Orc.fin []] [Orc.call
 [Mode.rd, Mode.rd] [] (AV.sv (li (sz (List.length (Syntax.scopes x)) (left - (↑(List.length (Array.toList (ByteArray.data (Syntax.text x)))) : Int))))), Orc.br [Orc.fin []]
 [Orc.call [Mode.rd, Mode.rd] [] (AV.sv (li (sz (List.length (Syntax.items x) + sumBy wY (Syntax.items x)) (sz (List.length (Syntax.scopes x)) (left - (↑(List.length (Array.toList
 (ByteArray.data (Syntax.text x)))) : Int)))))), Orc.br [Orc.fin []] [Orc.fin []]]]] (finK Try.prog [ResultVar.tmp 4] [] (AV.sv (li (sz (wY x) left)))) = (List.length (Array.toList
 (ByteArray.data (Syntax.text x))) ≤ 9223372036854775807 → rng IntKind.i64 (left - (↑(List.length (Array.toList (ByteArray.data (Syntax.text x)))) : Int)) ∧ (decide (left -
 (↑(List.length (Array.toList (ByteArray.data (Syntax.text x)))) : Int) < 0) = true → ObsEq [] [] ∧ AV.sv (li (-1 : Int)) = AV.sv (li (sz (wY x) left))) ∧ (decide (left -
 (↑(List.length (Array.toList (ByteArray.data (Syntax.text x)))) : Int) < 0) = false → P_c_szIntS (Syntax.scopes x) (left - (↑(List.length (Array.toList (ByteArray.data
 (Syntax.text x)))) : Int)) ∧ (decide (sz (List.length (Syntax.scopes x)) (left - (↑(List.length (Array.toList (ByteArray.data (Syntax.text x)))) : Int)) < 0) = true → ObsEq [] []
 ∧ AV.sv (li (-1 : Int)) = AV.sv (li (sz (wY x) left))) ∧ (decide (sz (List.length (Syntax.scopes x)) (left - (↑(List.length (Array.toList (ByteArray.data (Syntax.text x)))) :
 Int)) < 0) = false → P_c_szSyntaxS (Syntax.items x) (sz (List.length (Syntax.scopes x)) (left - (↑(List.length (Array.toList (ByteArray.data (Syntax.text x)))) : Int))) ∧ (decide
 (sz (List.length (Syntax.items x) + sumBy wY (Syntax.items x)) (sz (List.length (Syntax.scopes x)) (left - (↑(List.length (Array.toList (ByteArray.data (Syntax.text x)))) : Int)))
 < 0) = true → ObsEq [] [] ∧ AV.sv (li (-1 : Int)) = AV.sv (li (sz (wY x) left))) ∧ (decide (sz (List.length (Syntax.items x) + sumBy wY (Syntax.items x)) (sz (List.length
 (Syntax.scopes x)) (left - (↑(List.length (Array.toList (ByteArray.data (Syntax.text x)))) : Int))) < 0) = false → ObsEq [] [] ∧ AV.sv (li (sz (List.length (Syntax.items x) +
 sumBy wY (Syntax.items x)) (sz (List.length (Syntax.scopes x)) (left - (↑(List.length (Array.toList (ByteArray.data (Syntax.text x)))) : Int))))) = AV.sv (li (sz (wY x) left))))))
 := by kernel_rfl
theorem c_szSyntax_s (x : Syntax) (left : Int) (h0 : 0 ≤ left) (h : left ≤ 2147483647) (ih : ∀ z ∈ x.items, ∀ (left : Int) (h0 : 0 ≤ left) (h : left ≤ 2147483647), P_c_szSyntax z
 left)  : P_c_szSyntax x left := by
  refine CallOK.ofRun wide (run_c_szSyntax_s x left) Try.call51 Try.func51 rfl rfl rfl ?_
  with_reducible repeat' (first | apply And.intro | exact flatI | exact flatS | exact rowLens | exact ih | (intro; skip) | apply obsN | apply obsC | apply obA | apply obM | apply obB | apply svA | apply tupA | apply lcA | apply lcS | apply svC | apply liC | apply lbC | apply lsC | apply vIc | apply vBc | apply vSc | apply vLc | apply mapC | apply c_szIntS | apply c_szSyntaxS | apply ih)
  all_goals (try simp only [std] at *)
  all_goals (try (first | with_reducible rfl | omega | assumption | (refine (decide_eq_true ?_).symm; assumption) | (refine (decide_eq_false ?_).symm; assumption) | (refine rowGet ?_; (first | omega | (simp only [std]; omega) | grind)) | (refine getC ?_ rfl; (first | omega | (simp only [std]; omega) | grind)) | (refine fill_step ?_ ?_; (first | omega | (simp only [std]; omega) | grind); (first | rfl | exact (Row.eq _).trans rfl)) | (refine fill_init ?_; (first | rfl | exact (Row.eq _).trans rfl)) | grind [wY_eq, sz, wS, snocI, snocS, rowSnoc]))
theorem c_szSyntax (x : Syntax) : ∀ (left : Int) (h0 : 0 ≤ left) (h : left ≤ 2147483647), P_c_szSyntax x left := Syntax.ind (P := fun x => ∀ (left : Int) (h0 : 0 ≤ left) (h : left ≤ 2147483647), P_c_szSyntax x left) (fun x ih left h0 h => c_szSyntax_s x left h0 h ih) x
abbrev P_c_szBinding (x : Binding) (left : Int) : Prop := CallOK Try.prog 227 [] [bindingA x, li left] [] (.sv (li (sz (wB x) left)))
theorem run_c_szBinding (x : Binding) (left : Int) : aexec Try.prog (Option.getD (Func.body Try.f227) Code.skip) (entry [] [bindingA x, li left] 19) [Orc.br [Orc.fin []] [Orc.call
 [Mode.rd, Mode.rd] [] (AV.sv (li (sz (List.length (Binding.scopes x)) (left - (↑(List.length (Array.toList (ByteArray.data (Binding.text x)))) : Int))))), Orc.br [Orc.fin []]
 [Orc.fin []]]] (finK Try.prog [ResultVar.tmp 4] [] (AV.sv (li (sz (wB x) left)))) = (List.length (Array.toList (ByteArray.data (Binding.text x))) ≤ 9223372036854775807 → rng
 IntKind.i64 (left - (↑(List.length (Array.toList (ByteArray.data (Binding.text x)))) : Int)) ∧ (decide (left - (↑(List.length (Array.toList (ByteArray.data (Binding.text x)))) :
 Int) < 0) = true → ObsEq [] [] ∧ AV.sv (li (-1 : Int)) = AV.sv (li (sz (wB x) left))) ∧ (decide (left - (↑(List.length (Array.toList (ByteArray.data (Binding.text x)))) : Int) <
 0) = false → P_c_szIntS (Binding.scopes x) (left - (↑(List.length (Array.toList (ByteArray.data (Binding.text x)))) : Int)) ∧ (decide (sz (List.length (Binding.scopes x)) (left -
 (↑(List.length (Array.toList (ByteArray.data (Binding.text x)))) : Int)) < 0) = true → ObsEq [] [] ∧ AV.sv (li (-1 : Int)) = AV.sv (li (sz (wB x) left))) ∧ (decide (sz
 (List.length (Binding.scopes x)) (left - (↑(List.length (Array.toList (ByteArray.data (Binding.text x)))) : Int)) < 0) = false → ObsEq [] [] ∧ AV.sv (li (sz (List.length
 (Binding.scopes x)) (left - (↑(List.length (Array.toList (ByteArray.data (Binding.text x)))) : Int)))) = AV.sv (li (sz (wB x) left))))) := by kernel_rfl
theorem c_szBinding (x : Binding) (left : Int) (h0 : 0 ≤ left) (h : left ≤ 2147483647)  : P_c_szBinding x left := by
  refine CallOK.ofRun wide (run_c_szBinding x left) Try.call227 Try.func227 rfl rfl rfl ?_
  with_reducible repeat' (first | apply And.intro | exact flatI | exact flatS | exact rowLens | (intro; skip) | apply obsN | apply obsC | apply obA | apply obM | apply obB | apply svA | apply tupA | apply lcA | apply lcS | apply svC | apply liC | apply lbC | apply lsC | apply vIc | apply vBc | apply vSc | apply vLc | apply mapC | apply c_szIntS)
  all_goals (try simp only [std] at *)
  all_goals (try (first | with_reducible rfl | omega | assumption | (refine (decide_eq_true ?_).symm; assumption) | (refine (decide_eq_false ?_).symm; assumption) | (refine rowGet ?_; (first | omega | (simp only [std]; omega) | grind)) | (refine getC ?_ rfl; (first | omega | (simp only [std]; omega) | grind)) | (refine fill_step ?_ ?_; (first | omega | (simp only [std]; omega) | grind); (first | rfl | exact (Row.eq _).trans rfl)) | (refine fill_init ?_; (first | rfl | exact (Row.eq _).trans rfl)) | grind [wB_eq, sz, wS, snocI, snocS, rowSnoc]))
abbrev P_c_szBindingS (L : List Binding) (left : Int) : Prop := CallOK Try.prog 132 [] [ll (L.map bindingC), li left] [] (.sv (li (sz (L.length + sumBy wB L) left)))
def Tc_szBindingSLa (L : List Binding) (left : Int) (x0 : SV) (x1 : SV) : St := St.mk (regsOf 27 [(0, AV.sv (ll (List.map bindingC L))), (1, AV.sv x1), (5, AV.sv x0)]) [] 0 
def Lc_szBindingSLa (L : List Binding) (left : Int) (k : Nat × Int) : St := Tc_szBindingSLa L left (li (↑(Prod.fst k) : Int)) (li (Prod.snd k)) 
def Ic_szBindingSLa (L : List Binding) (left : Int) : Nat → St → Prop := Head (Lc_szBindingSLa L left) (fun k => Prod.fst k ≤ List.length L ∧ List.length L ≤ 9223372036854775807 ∧
 0 ≤ Prod.snd k ∧ Prod.snd k ≤ left ∧ sz (sumBy wB (List.drop (Prod.fst k) L)) (Prod.snd k) = sz (List.length L + sumBy wB L) left) fun k => List.length L - Prod.fst k 
def W0c_szBindingSLa (L : List Binding) (left : Int) (x0 : SV) : St := St.mk (regsOf 27 [(1, AV.sv x0)]) [] 0 
def W1c_szBindingSLa (L : List Binding) (left : Int) (x0 : SV) : St := St.mk (regsOf 27 [(4, AV.sv x0)]) [] 0 
def Yc_szBindingSLa (L : List Binding) (left : Int) : List (Prop × AEx × St) := [(0 ≤ sz (List.length L + sumBy wB L) left, AEx.exit 0, W0c_szBindingSLa L left (li (sz (List.length
 L + sumBy wB L) left))), (sz (List.length L + sumBy wB L) left = (-1 : Int), AEx.ret, W1c_szBindingSLa L left (li (-1 : Int)))]
theorem Hc_szBindingSLa {L : List Binding} {left : Int} {k : Nat × Int} {m : Nat} (h : (fun k => Prod.fst k ≤ List.length L ∧ List.length L ≤ 9223372036854775807 ∧ 0 ≤ Prod.snd k ∧
 Prod.snd k ≤ left ∧ sz (sumBy wB (List.drop (Prod.fst k) L)) (Prod.snd k) = sz (List.length L + sumBy wB L) left) k) (hm : (fun k => List.length L - Prod.fst k) k = m) :
 Ic_szBindingSLa L left m (Lc_szBindingSLa L left k) := hm ▸ Head.mk h
theorem Ec_szBindingSLa {L : List Binding} {left : Int} {k : Nat × Int} {x0 : SV} {x1 : SV} (h0 : x0 = (li (↑(Prod.fst k) : Int))) (h1 : x1 = (li (Prod.snd k))) : Tc_szBindingSLa L
 left x0 x1 = Lc_szBindingSLa L left k := by
  rw [h0, h1]
  rfl
theorem EW0c_szBindingSLa {L : List Binding} {left : Int} {x0 y0 : SV} (h0 : x0 = y0) : W0c_szBindingSLa L left x0 = W0c_szBindingSLa L left y0 := by rw [h0]
theorem EW1c_szBindingSLa {L : List Binding} {left : Int} {x0 y0 : SV} (h0 : x0 = y0) : W1c_szBindingSLa L left x0 = W1c_szBindingSLa L left y0 := by rw [h0]
theorem run_c_szBindingSLa (L : List Binding) (left : Int) (k : Nat × Int) : aexec Try.prog (loopAt Try.f132 0) (Lc_szBindingSLa L left k) [Orc.br [Orc.cells (bindingF (List.getD L
 (Prod.fst k) default)), Orc.call [Mode.rd, Mode.rd] [] (AV.sv (li (sz (wB (List.getD L (Prod.fst k) default)) (Prod.snd k)))), Orc.br [Orc.ghost (Ghost.sel [] [4]), Orc.out 1]
 [Orc.ghost (Ghost.sel [] [0, 1, 5]), Orc.goto (List.length L - (Prod.fst k + 1)) (Lc_szBindingSLa L left (Prod.fst k + 1, sz (wB (List.getD L (Prod.fst k) default)) (Prod.snd
 k)))]] [Orc.ghost (Ghost.sel [] [1]), Orc.out 0]] (loopK (Ic_szBindingSLa L left) (Yc_szBindingSLa L left) (List.length L - Prod.fst k)) = (List.length (List.map bindingC L) ≤
 9223372036854775807 → (decide ((↑(Prod.fst k) : Int) < (↑(List.length (List.map bindingC L)) : Int)) = true → (0 ≤ (↑(Prod.fst k) : Int) ∧ (List.map bindingC L)[Int.toNat
 (↑(Prod.fst k) : Int)]? = some (bindingF (List.getD L (Prod.fst k) default))) ∧ P_c_szBinding (List.getD L (Prod.fst k) default) (Prod.snd k) ∧ (decide (sz (wB (List.getD L
 (Prod.fst k) default)) (Prod.snd k) < 0) = true → sz (List.length L + sumBy wB L) left = (-1 : Int) ∧ W1c_szBindingSLa L left (li (-1 : Int)) = W1c_szBindingSLa L left (li (-1 :
 Int))) ∧ (decide (sz (wB (List.getD L (Prod.fst k) default)) (Prod.snd k) < 0) = false → rng IntKind.i64 ((↑(Prod.fst k) : Int) + 1) ∧ List.length L - (Prod.fst k + 1) <
 List.length L - Prod.fst k ∧ Tc_szBindingSLa L left (li ((↑(Prod.fst k) : Int) + 1)) (li (sz (wB (List.getD L (Prod.fst k) default)) (Prod.snd k))) = Lc_szBindingSLa L left
 (Prod.fst k + 1, sz (wB (List.getD L (Prod.fst k) default)) (Prod.snd k)) ∧ Ic_szBindingSLa L left (List.length L - (Prod.fst k + 1)) (Lc_szBindingSLa L left (Prod.fst k + 1, sz
 (wB (List.getD L (Prod.fst k) default)) (Prod.snd k))))) ∧ (decide ((↑(Prod.fst k) : Int) < (↑(List.length (List.map bindingC L)) : Int)) = false → 0 ≤ sz (List.length L + sumBy
 wB L) left ∧ W0c_szBindingSLa L left (li (Prod.snd k)) = W0c_szBindingSLa L left (li (sz (List.length L + sumBy wB L) left)))) := by kernel_rfl
theorem Sc_szBindingSLa (L : List Binding) (left : Int) (h0 : 0 ≤ left) (h : left ≤ 2147483647)  : LoopSem Try.prog (loopAt Try.f132 0) (Ic_szBindingSLa L left) (Yc_szBindingSLa L
 left) := by
  refine LoopSem.ofHead wide fun k h => ⟨_, _, run_c_szBindingSLa L left k, ?_⟩
  obtain ⟨i, n⟩ := k
  simp only at *
  with_reducible repeat' (first | apply And.intro | exact flatI | exact flatS | exact rowLens | (intro; skip) | apply obsN | apply obsC | apply obA | apply obM | apply obB | apply svA | apply tupA | apply lcA | apply lcS | apply svC | apply liC | apply lbC | apply lsC | apply vIc | apply vBc | apply vSc | apply vLc | apply mapC | apply Hc_szBindingSLa | apply Ec_szBindingSLa | apply EW0c_szBindingSLa | apply EW1c_szBindingSLa | apply c_szBinding)
  all_goals (try simp only [std] at *)
  all_goals (try (first | with_reducible rfl | omega | assumption | (refine (decide_eq_true ?_).symm; assumption) | (refine (decide_eq_false ?_).symm; assumption) | (refine rowGet ?_; (first | omega | (simp only [std]; omega) | grind)) | (refine getC ?_ rfl; (first | omega | (simp only [std]; omega) | grind)) | (refine fill_step ?_ ?_; (first | omega | (simp only [std]; omega) | grind); (first | rfl | exact (Row.eq _).trans rfl)) | (refine fill_init ?_; (first | rfl | exact (Row.eq _).trans rfl)) | grind [drop_get, sumBy, sz, getD_mem', snocI, snocS, rowSnoc]))
theorem run_c_szBindingS (L : List Binding) (left : Int) : aexec Try.prog (Option.getD (Func.body Try.f132) Code.skip) (entry [] [ll (List.map bindingC L), li left] 27) [Orc.br
 [Orc.fin []] [Orc.ghost (Ghost.sel [] [0, 1, 5]), Orc.loop (List.length L - 0) (Lc_szBindingSLa L left (0, left - (↑(List.length L) : Int))) (Ic_szBindingSLa L left) [(0 ≤ sz
 (List.length L + sumBy wB L) left, AEx.exit 0, W0c_szBindingSLa L left (li (sz (List.length L + sumBy wB L) left)), [Orc.fin []]), (sz (List.length L + sumBy wB L) left = (-1 :
 Int), AEx.ret, W1c_szBindingSLa L left (li (-1 : Int)), [Orc.fin []])]]] (finK Try.prog [ResultVar.tmp 4] [] (AV.sv (li (sz (List.length L + sumBy wB L) left)))) = (List.length
 (List.map bindingC L) ≤ 9223372036854775807 → rng IntKind.i64 (left - (↑(List.length (List.map bindingC L)) : Int)) ∧ (decide (left - (↑(List.length (List.map bindingC L)) : Int)
 < 0) = true → ObsEq [] [] ∧ AV.sv (li (-1 : Int)) = AV.sv (li (sz (List.length L + sumBy wB L) left))) ∧ (decide (left - (↑(List.length (List.map bindingC L)) : Int) < 0) = false
 → Tc_szBindingSLa L left (li 0) (li (left - (↑(List.length (List.map bindingC L)) : Int))) = Lc_szBindingSLa L left (0, left - (↑(List.length L) : Int)) ∧ Ic_szBindingSLa L left
 (List.length L - 0) (Lc_szBindingSLa L left (0, left - (↑(List.length L) : Int))) ∧ LoopSem Try.prog (loopAt Try.f132 0) (Ic_szBindingSLa L left) (Yc_szBindingSLa L left) ∧
 (Int.NonNeg (sz (List.length L + sumBy wB L) left - 0) → ObsEq [] [] ∧ AV.sv (li (sz (List.length L + sumBy wB L) left)) = AV.sv (li (sz (List.length L + sumBy wB L) left))) ∧ (sz
 (List.length L + sumBy wB L) left = (-1 : Int) → ObsEq [] [] ∧ AV.sv (li (-1 : Int)) = AV.sv (li (sz (List.length L + sumBy wB L) left))) ∧ True)) := by kernel_rfl
theorem c_szBindingS (L : List Binding) (left : Int) (h0 : 0 ≤ left) (h : left ≤ 2147483647)  : P_c_szBindingS L left := by
  refine CallOK.ofRun wide (run_c_szBindingS L left) Try.call132 Try.func132 rfl rfl rfl ?_
  with_reducible repeat' (first | apply And.intro | exact flatI | exact flatS | exact rowLens | (intro; skip) | apply obsN | apply obsC | apply obA | apply obM | apply obB | apply svA | apply tupA | apply lcA | apply lcS | apply svC | apply liC | apply lbC | apply lsC | apply vIc | apply vBc | apply vSc | apply vLc | apply mapC | apply Hc_szBindingSLa | apply Ec_szBindingSLa | apply Sc_szBindingSLa | apply EW0c_szBindingSLa | apply EW1c_szBindingSLa | apply c_szBinding)
  all_goals (try simp only [std] at *)
  all_goals (try (first | with_reducible rfl | omega | assumption | (refine (decide_eq_true ?_).symm; assumption) | (refine (decide_eq_false ?_).symm; assumption) | (refine rowGet ?_; (first | omega | (simp only [std]; omega) | grind)) | (refine getC ?_ rfl; (first | omega | (simp only [std]; omega) | grind)) | (refine fill_step ?_ ?_; (first | omega | (simp only [std]; omega) | grind); (first | rfl | exact (Row.eq _).trans rfl)) | (refine fill_init ?_; (first | rfl | exact (Row.eq _).trans rfl)) | grind [sz, snocI, snocS, rowSnoc]))
abbrev P_c_szRules (x : Rules) (left : Int) : Prop := CallOK Try.prog 93 [] [rulesA x, li left] [] (.sv (li (sz (wR x) left)))
theorem run_c_szRules (x : Rules) (left : Int) : aexec Try.prog (Option.getD (Func.body Try.f93) Code.skip) (entry [] [rulesA x, li left] 24) [Orc.call [Mode.rd, Mode.rd] [] (AV.sv
 (li (sz (List.length (Rules.literals x) + sumBy wY (Rules.literals x)) left))), Orc.br [Orc.fin []] [Orc.call [Mode.rd, Mode.rd] [] (AV.sv (li (sz (List.length (Rules.patterns x)
 + sumBy wY (Rules.patterns x)) (sz (List.length (Rules.literals x) + sumBy wY (Rules.literals x)) left)))), Orc.br [Orc.fin []] [Orc.call [Mode.rd, Mode.rd] [] (AV.sv (li (sz
 (List.length (Rules.templates x) + sumBy wY (Rules.templates x)) (sz (List.length (Rules.patterns x) + sumBy wY (Rules.patterns x)) (sz (List.length (Rules.literals x) + sumBy wY
 (Rules.literals x)) left))))), Orc.br [Orc.fin []] [Orc.fin []]]]] (finK Try.prog [ResultVar.tmp 4] [] (AV.sv (li (sz (wR x) left)))) = (P_c_szSyntaxS (Rules.literals x) left ∧
 (decide (sz (List.length (Rules.literals x) + sumBy wY (Rules.literals x)) left < 0) = true → ObsEq [] [] ∧ AV.sv (li (-1 : Int)) = AV.sv (li (sz (wR x) left))) ∧ (decide (sz
 (List.length (Rules.literals x) + sumBy wY (Rules.literals x)) left < 0) = false → P_c_szSyntaxS (Rules.patterns x) (sz (List.length (Rules.literals x) + sumBy wY (Rules.literals
 x)) left) ∧ (decide (sz (List.length (Rules.patterns x) + sumBy wY (Rules.patterns x)) (sz (List.length (Rules.literals x) + sumBy wY (Rules.literals x)) left) < 0) = true → ObsEq
 [] [] ∧ AV.sv (li (-1 : Int)) = AV.sv (li (sz (wR x) left))) ∧ (decide (sz (List.length (Rules.patterns x) + sumBy wY (Rules.patterns x)) (sz (List.length (Rules.literals x) +
 sumBy wY (Rules.literals x)) left) < 0) = false → P_c_szSyntaxS (Rules.templates x) (sz (List.length (Rules.patterns x) + sumBy wY (Rules.patterns x)) (sz (List.length
 (Rules.literals x) + sumBy wY (Rules.literals x)) left)) ∧ (decide (sz (List.length (Rules.templates x) + sumBy wY (Rules.templates x)) (sz (List.length (Rules.patterns x) + sumBy
 wY (Rules.patterns x)) (sz (List.length (Rules.literals x) + sumBy wY (Rules.literals x)) left)) < 0) = true → ObsEq [] [] ∧ AV.sv (li (-1 : Int)) = AV.sv (li (sz (wR x) left))) ∧
 (decide (sz (List.length (Rules.templates x) + sumBy wY (Rules.templates x)) (sz (List.length (Rules.patterns x) + sumBy wY (Rules.patterns x)) (sz (List.length (Rules.literals x)
 + sumBy wY (Rules.literals x)) left)) < 0) = false → ObsEq [] [] ∧ AV.sv (li (sz (List.length (Rules.templates x) + sumBy wY (Rules.templates x)) (sz (List.length (Rules.patterns
 x) + sumBy wY (Rules.patterns x)) (sz (List.length (Rules.literals x) + sumBy wY (Rules.literals x)) left)))) = AV.sv (li (sz (wR x) left)))))) := by kernel_rfl
theorem c_szRules (x : Rules) (left : Int) (h0 : 0 ≤ left) (h : left ≤ 2147483647)  : P_c_szRules x left := by
  refine CallOK.ofRun wide (run_c_szRules x left) Try.call93 Try.func93 rfl rfl rfl ?_
  with_reducible repeat' (first | apply And.intro | exact flatI | exact flatS | exact rowLens | (intro; skip) | apply obsN | apply obsC | apply obA | apply obM | apply obB | apply svA | apply tupA | apply lcA | apply lcS | apply svC | apply liC | apply lbC | apply lsC | apply vIc | apply vBc | apply vSc | apply vLc | apply mapC | apply c_szSyntaxS | apply c_szSyntax)
  all_goals (try simp only [std] at *)
  all_goals (try (first | with_reducible rfl | omega | assumption | (refine (decide_eq_true ?_).symm; assumption) | (refine (decide_eq_false ?_).symm; assumption) | (refine rowGet ?_; (first | omega | (simp only [std]; omega) | grind)) | (refine getC ?_ rfl; (first | omega | (simp only [std]; omega) | grind)) | (refine fill_step ?_ ?_; (first | omega | (simp only [std]; omega) | grind); (first | rfl | exact (Row.eq _).trans rfl)) | (refine fill_init ?_; (first | rfl | exact (Row.eq _).trans rfl)) | grind [wR_eq, sz, wS, snocI, snocS, rowSnoc]))
abbrev P_c_szRulesS (L : List Rules) (left : Int) : Prop := CallOK Try.prog 133 [] [ll (L.map rulesC), li left] [] (.sv (li (sz (L.length + sumBy wR L) left)))
def Tc_szRulesSLa (L : List Rules) (left : Int) (x0 : SV) (x1 : SV) : St := St.mk (regsOf 27 [(0, AV.sv (ll (List.map rulesC L))), (1, AV.sv x1), (5, AV.sv x0)]) [] 0 
def Lc_szRulesSLa (L : List Rules) (left : Int) (k : Nat × Int) : St := Tc_szRulesSLa L left (li (↑(Prod.fst k) : Int)) (li (Prod.snd k)) 
def Ic_szRulesSLa (L : List Rules) (left : Int) : Nat → St → Prop := Head (Lc_szRulesSLa L left) (fun k => Prod.fst k ≤ List.length L ∧ List.length L ≤ 9223372036854775807 ∧ 0 ≤
 Prod.snd k ∧ Prod.snd k ≤ left ∧ sz (sumBy wR (List.drop (Prod.fst k) L)) (Prod.snd k) = sz (List.length L + sumBy wR L) left) fun k => List.length L - Prod.fst k 
def W0c_szRulesSLa (L : List Rules) (left : Int) (x0 : SV) : St := St.mk (regsOf 27 [(1, AV.sv x0)]) [] 0 
def W1c_szRulesSLa (L : List Rules) (left : Int) (x0 : SV) : St := St.mk (regsOf 27 [(4, AV.sv x0)]) [] 0 
def Yc_szRulesSLa (L : List Rules) (left : Int) : List (Prop × AEx × St) := [(0 ≤ sz (List.length L + sumBy wR L) left, AEx.exit 0, W0c_szRulesSLa L left (li (sz (List.length L +
 sumBy wR L) left))), (sz (List.length L + sumBy wR L) left = (-1 : Int), AEx.ret, W1c_szRulesSLa L left (li (-1 : Int)))]
theorem Hc_szRulesSLa {L : List Rules} {left : Int} {k : Nat × Int} {m : Nat} (h : (fun k => Prod.fst k ≤ List.length L ∧ List.length L ≤ 9223372036854775807 ∧ 0 ≤ Prod.snd k ∧
 Prod.snd k ≤ left ∧ sz (sumBy wR (List.drop (Prod.fst k) L)) (Prod.snd k) = sz (List.length L + sumBy wR L) left) k) (hm : (fun k => List.length L - Prod.fst k) k = m) :
 Ic_szRulesSLa L left m (Lc_szRulesSLa L left k) := hm ▸ Head.mk h
theorem Ec_szRulesSLa {L : List Rules} {left : Int} {k : Nat × Int} {x0 : SV} {x1 : SV} (h0 : x0 = (li (↑(Prod.fst k) : Int))) (h1 : x1 = (li (Prod.snd k))) : Tc_szRulesSLa L left
 x0 x1 = Lc_szRulesSLa L left k := by
  rw [h0, h1]
  rfl
theorem EW0c_szRulesSLa {L : List Rules} {left : Int} {x0 y0 : SV} (h0 : x0 = y0) : W0c_szRulesSLa L left x0 = W0c_szRulesSLa L left y0 := by rw [h0]
theorem EW1c_szRulesSLa {L : List Rules} {left : Int} {x0 y0 : SV} (h0 : x0 = y0) : W1c_szRulesSLa L left x0 = W1c_szRulesSLa L left y0 := by rw [h0]
theorem run_c_szRulesSLa (L : List Rules) (left : Int) (k : Nat × Int) : aexec Try.prog (loopAt Try.f133 0) (Lc_szRulesSLa L left k) [Orc.br [Orc.cells (rulesF (List.getD L
 (Prod.fst k) default)), Orc.call [Mode.rd, Mode.rd] [] (AV.sv (li (sz (wR (List.getD L (Prod.fst k) default)) (Prod.snd k)))), Orc.br [Orc.ghost (Ghost.sel [] [4]), Orc.out 1]
 [Orc.ghost (Ghost.sel [] [0, 1, 5]), Orc.goto (List.length L - (Prod.fst k + 1)) (Lc_szRulesSLa L left (Prod.fst k + 1, sz (wR (List.getD L (Prod.fst k) default)) (Prod.snd k)))]]
 [Orc.ghost (Ghost.sel [] [1]), Orc.out 0]] (loopK (Ic_szRulesSLa L left) (Yc_szRulesSLa L left) (List.length L - Prod.fst k)) = (List.length (List.map rulesC L) ≤
 9223372036854775807 → (decide ((↑(Prod.fst k) : Int) < (↑(List.length (List.map rulesC L)) : Int)) = true → (0 ≤ (↑(Prod.fst k) : Int) ∧ (List.map rulesC L)[Int.toNat (↑(Prod.fst
 k) : Int)]? = some (rulesF (List.getD L (Prod.fst k) default))) ∧ P_c_szRules (List.getD L (Prod.fst k) default) (Prod.snd k) ∧ (decide (sz (wR (List.getD L (Prod.fst k) default))
 (Prod.snd k) < 0) = true → sz (List.length L + sumBy wR L) left = (-1 : Int) ∧ W1c_szRulesSLa L left (li (-1 : Int)) = W1c_szRulesSLa L left (li (-1 : Int))) ∧ (decide (sz (wR
 (List.getD L (Prod.fst k) default)) (Prod.snd k) < 0) = false → rng IntKind.i64 ((↑(Prod.fst k) : Int) + 1) ∧ List.length L - (Prod.fst k + 1) < List.length L - Prod.fst k ∧
 Tc_szRulesSLa L left (li ((↑(Prod.fst k) : Int) + 1)) (li (sz (wR (List.getD L (Prod.fst k) default)) (Prod.snd k))) = Lc_szRulesSLa L left (Prod.fst k + 1, sz (wR (List.getD L
 (Prod.fst k) default)) (Prod.snd k)) ∧ Ic_szRulesSLa L left (List.length L - (Prod.fst k + 1)) (Lc_szRulesSLa L left (Prod.fst k + 1, sz (wR (List.getD L (Prod.fst k) default))
 (Prod.snd k))))) ∧ (decide ((↑(Prod.fst k) : Int) < (↑(List.length (List.map rulesC L)) : Int)) = false → 0 ≤ sz (List.length L + sumBy wR L) left ∧ W0c_szRulesSLa L left (li
 (Prod.snd k)) = W0c_szRulesSLa L left (li (sz (List.length L + sumBy wR L) left)))) := by kernel_rfl
theorem Sc_szRulesSLa (L : List Rules) (left : Int) (h0 : 0 ≤ left) (h : left ≤ 2147483647)  : LoopSem Try.prog (loopAt Try.f133 0) (Ic_szRulesSLa L left) (Yc_szRulesSLa L left) :=
 by
  refine LoopSem.ofHead wide fun k h => ⟨_, _, run_c_szRulesSLa L left k, ?_⟩
  obtain ⟨i, n⟩ := k
  simp only at *
  with_reducible repeat' (first | apply And.intro | exact flatI | exact flatS | exact rowLens | (intro; skip) | apply obsN | apply obsC | apply obA | apply obM | apply obB | apply svA | apply tupA | apply lcA | apply lcS | apply svC | apply liC | apply lbC | apply lsC | apply vIc | apply vBc | apply vSc | apply vLc | apply mapC | apply Hc_szRulesSLa | apply Ec_szRulesSLa | apply EW0c_szRulesSLa | apply EW1c_szRulesSLa | apply c_szRules)
  all_goals (try simp only [std] at *)
  all_goals (try (first | with_reducible rfl | omega | assumption | (refine (decide_eq_true ?_).symm; assumption) | (refine (decide_eq_false ?_).symm; assumption) | (refine rowGet ?_; (first | omega | (simp only [std]; omega) | grind)) | (refine getC ?_ rfl; (first | omega | (simp only [std]; omega) | grind)) | (refine fill_step ?_ ?_; (first | omega | (simp only [std]; omega) | grind); (first | rfl | exact (Row.eq _).trans rfl)) | (refine fill_init ?_; (first | rfl | exact (Row.eq _).trans rfl)) | grind [drop_get, sumBy, sz, getD_mem', snocI, snocS, rowSnoc]))
theorem run_c_szRulesS (L : List Rules) (left : Int) : aexec Try.prog (Option.getD (Func.body Try.f133) Code.skip) (entry [] [ll (List.map rulesC L), li left] 27) [Orc.br [Orc.fin
 []] [Orc.ghost (Ghost.sel [] [0, 1, 5]), Orc.loop (List.length L - 0) (Lc_szRulesSLa L left (0, left - (↑(List.length L) : Int))) (Ic_szRulesSLa L left) [(0 ≤ sz (List.length L +
 sumBy wR L) left, AEx.exit 0, W0c_szRulesSLa L left (li (sz (List.length L + sumBy wR L) left)), [Orc.fin []]), (sz (List.length L + sumBy wR L) left = (-1 : Int), AEx.ret,
 W1c_szRulesSLa L left (li (-1 : Int)), [Orc.fin []])]]] (finK Try.prog [ResultVar.tmp 4] [] (AV.sv (li (sz (List.length L + sumBy wR L) left)))) = (List.length (List.map rulesC L)
 ≤ 9223372036854775807 → rng IntKind.i64 (left - (↑(List.length (List.map rulesC L)) : Int)) ∧ (decide (left - (↑(List.length (List.map rulesC L)) : Int) < 0) = true → ObsEq [] []
 ∧ AV.sv (li (-1 : Int)) = AV.sv (li (sz (List.length L + sumBy wR L) left))) ∧ (decide (left - (↑(List.length (List.map rulesC L)) : Int) < 0) = false → Tc_szRulesSLa L left (li
 0) (li (left - (↑(List.length (List.map rulesC L)) : Int))) = Lc_szRulesSLa L left (0, left - (↑(List.length L) : Int)) ∧ Ic_szRulesSLa L left (List.length L - 0) (Lc_szRulesSLa L
 left (0, left - (↑(List.length L) : Int))) ∧ LoopSem Try.prog (loopAt Try.f133 0) (Ic_szRulesSLa L left) (Yc_szRulesSLa L left) ∧ (Int.NonNeg (sz (List.length L + sumBy wR L) left
 - 0) → ObsEq [] [] ∧ AV.sv (li (sz (List.length L + sumBy wR L) left)) = AV.sv (li (sz (List.length L + sumBy wR L) left))) ∧ (sz (List.length L + sumBy wR L) left = (-1 : Int) →
 ObsEq [] [] ∧ AV.sv (li (-1 : Int)) = AV.sv (li (sz (List.length L + sumBy wR L) left))) ∧ True)) := by kernel_rfl
theorem c_szRulesS (L : List Rules) (left : Int) (h0 : 0 ≤ left) (h : left ≤ 2147483647)  : P_c_szRulesS L left := by
  refine CallOK.ofRun wide (run_c_szRulesS L left) Try.call133 Try.func133 rfl rfl rfl ?_
  with_reducible repeat' (first | apply And.intro | exact flatI | exact flatS | exact rowLens | (intro; skip) | apply obsN | apply obsC | apply obA | apply obM | apply obB | apply svA | apply tupA | apply lcA | apply lcS | apply svC | apply liC | apply lbC | apply lsC | apply vIc | apply vBc | apply vSc | apply vLc | apply mapC | apply Hc_szRulesSLa | apply Ec_szRulesSLa | apply Sc_szRulesSLa | apply EW0c_szRulesSLa | apply EW1c_szRulesSLa | apply c_szRules)
  all_goals (try simp only [std] at *)
  all_goals (try (first | with_reducible rfl | omega | assumption | (refine (decide_eq_true ?_).symm; assumption) | (refine (decide_eq_false ?_).symm; assumption) | (refine rowGet ?_; (first | omega | (simp only [std]; omega) | grind)) | (refine getC ?_ rfl; (first | omega | (simp only [std]; omega) | grind)) | (refine fill_step ?_ ?_; (first | omega | (simp only [std]; omega) | grind); (first | rfl | exact (Row.eq _).trans rfl)) | (refine fill_init ?_; (first | rfl | exact (Row.eq _).trans rfl)) | grind [sz, snocI, snocS, rowSnoc]))
abbrev P_c_szExpander (x : Expander) (left : Int) : Prop := CallOK Try.prog 38 [] [expanderA x, li left] [] (.sv (li (sz (wX x) left)))
theorem run_c_szExpander (x : Expander) (left : Int) : aexec Try.prog (Option.getD (Func.body Try.f38) Code.skip) (entry [] [expanderA x, li left] 18) [Orc.call [Mode.rd, Mode.rd]
 [] (AV.sv (li (sz (List.length (Expander.bindings x) + sumBy wB (Expander.bindings x)) left))), Orc.br [Orc.fin []] [Orc.call [Mode.rd, Mode.rd] [] (AV.sv (li (sz (List.length
 (Expander.macros x) + sumBy wR (Expander.macros x)) (sz (List.length (Expander.bindings x) + sumBy wB (Expander.bindings x)) left)))), Orc.br [Orc.fin []] [Orc.fin []]]] (finK
 Try.prog [ResultVar.tmp 4] [] (AV.sv (li (sz (wX x) left)))) = (P_c_szBindingS (Expander.bindings x) left ∧ (decide (sz (List.length (Expander.bindings x) + sumBy wB
 (Expander.bindings x)) left < 0) = true → ObsEq [] [] ∧ AV.sv (li (-1 : Int)) = AV.sv (li (sz (wX x) left))) ∧ (decide (sz (List.length (Expander.bindings x) + sumBy wB
 (Expander.bindings x)) left < 0) = false → P_c_szRulesS (Expander.macros x) (sz (List.length (Expander.bindings x) + sumBy wB (Expander.bindings x)) left) ∧ (decide (sz
 (List.length (Expander.macros x) + sumBy wR (Expander.macros x)) (sz (List.length (Expander.bindings x) + sumBy wB (Expander.bindings x)) left) < 0) = true → ObsEq [] [] ∧ AV.sv
 (li (-1 : Int)) = AV.sv (li (sz (wX x) left))) ∧ (decide (sz (List.length (Expander.macros x) + sumBy wR (Expander.macros x)) (sz (List.length (Expander.bindings x) + sumBy wB
 (Expander.bindings x)) left) < 0) = false → ObsEq [] [] ∧ AV.sv (li (sz (List.length (Expander.macros x) + sumBy wR (Expander.macros x)) (sz (List.length (Expander.bindings x) +
 sumBy wB (Expander.bindings x)) left))) = AV.sv (li (sz (wX x) left))))) := by kernel_rfl
theorem c_szExpander (x : Expander) (left : Int) (h0 : 0 ≤ left) (h : left ≤ 2147483647)  : P_c_szExpander x left := by
  refine CallOK.ofRun wide (run_c_szExpander x left) Try.call38 Try.func38 rfl rfl rfl ?_
  with_reducible repeat' (first | apply And.intro | exact flatI | exact flatS | exact rowLens | (intro; skip) | apply obsN | apply obsC | apply obA | apply obM | apply obB | apply svA | apply tupA | apply lcA | apply lcS | apply svC | apply liC | apply lbC | apply lsC | apply vIc | apply vBc | apply vSc | apply vLc | apply mapC | apply c_szBindingS | apply c_szRulesS)
  all_goals (try simp only [std] at *)
  all_goals (try (first | with_reducible rfl | omega | assumption | (refine (decide_eq_true ?_).symm; assumption) | (refine (decide_eq_false ?_).symm; assumption) | (refine rowGet ?_; (first | omega | (simp only [std]; omega) | grind)) | (refine getC ?_ rfl; (first | omega | (simp only [std]; omega) | grind)) | (refine fill_step ?_ ?_; (first | omega | (simp only [std]; omega) | grind); (first | rfl | exact (Row.eq _).trans rfl)) | (refine fill_init ?_; (first | rfl | exact (Row.eq _).trans rfl)) | grind [wX_eq, sz, wS, snocI, snocS, rowSnoc]))
end Go.Proofs.Ytehpjofddjmbpaa
end
section
namespace Go.Proofs.Ytehpjofddjmbpaa
open Go Go.Proofs.Ytehpjofddjmbpaa.Ab
set_option linter.unusedVariables false
set_option linter.unusedSimpArgs false
set_option maxHeartbeats 4000000
abbrev P_c_toIntS (L : List Int) : Prop := CallOK Try.prog 61 [] [ll (L.map intC)] [.arr true 1 (L.map intC)] (.sv (.one (.ref 0)))
def Tc_toIntSLa (L : List Int) (x0 : SV) (x1 : Ob) : St := St.mk (regsOf 22 [(0, AV.sv (ll (List.map intC L))), (3, AV.sv (SV.one (AC.ref 0))), (4, AV.sv x0)]) [x1] 0 
def Lc_toIntSLa (L : List Int) (k : Nat) : St := Tc_toIntSLa L (li (↑k : Int)) (Ob.arr true 1 (List.map intC (fillTo L k))) 
def Ic_toIntSLa (L : List Int) : Nat → St → Prop := Head (Lc_toIntSLa L) (fun k => k ≤ List.length L ∧ List.length L ≤ 9223372036854775807) fun k => List.length L - k 
def W0c_toIntSLa (L : List Int) (x0 : Ob) : St := St.mk (regsOf 22 [(3, AV.sv (SV.one (AC.ref 0)))]) [x0] 0 
def Yc_toIntSLa (L : List Int) : List (Prop × AEx × St) := [(True, AEx.exit 0, W0c_toIntSLa L (Ob.arr true 1 (List.map intC L)))]
theorem Hc_toIntSLa {L : List Int} {k : Nat} {m : Nat} (h : (fun k => k ≤ List.length L ∧ List.length L ≤ 9223372036854775807) k) (hm : (fun k => List.length L - k) k = m) :
 Ic_toIntSLa L m (Lc_toIntSLa L k) := hm ▸ Head.mk h
theorem Ec_toIntSLa {L : List Int} {k : Nat} {x0 : SV} {x1 : Ob} (h0 : x0 = (li (↑k : Int))) (h1 : x1 = (Ob.arr true 1 (List.map intC (fillTo L k)))) : Tc_toIntSLa L x0 x1 =
 Lc_toIntSLa L k := by
  rw [h0, h1]
  rfl
theorem EW0c_toIntSLa {L : List Int} {x0 y0 : Ob} (h0 : x0 = y0) : W0c_toIntSLa L x0 = W0c_toIntSLa L y0 := by rw [h0]
theorem run_c_toIntSLa (L : List Int) (k : Nat) : aexec Try.prog (loopAt Try.f61 0) (Lc_toIntSLa L k) [Orc.br [Orc.cells (intC (List.getD L k default)), Orc.cells (intC (List.getD
 (fillTo L k) (Int.toNat (↑k : Int)) default)), Orc.ghost (Ghost.sel [0] [0, 3, 4]), Orc.goto (List.length L - (k + 1)) (Lc_toIntSLa L (k + 1))] [Orc.ghost (Ghost.sel [0] [3]),
 Orc.out 0]] (loopK (Ic_toIntSLa L) (Yc_toIntSLa L) (List.length L - k)) = (List.length (List.map intC L) ≤ 9223372036854775807 → (decide ((↑k : Int) < (↑(List.length (List.map
 intC L)) : Int)) = true → (0 ≤ (↑k : Int) ∧ (List.map intC L)[Int.toNat (↑k : Int)]? = some [cI (List.getD L k 0)]) ∧ (0 ≤ (↑k : Int) ∧ Int.toNat (↑k : Int) < List.length
 (List.map intC (fillTo L k))) ∧ (List.map intC (fillTo L k))[Int.toNat (↑k : Int)]? = some [cI (List.getD (fillTo L k) (Int.toNat (↑k : Int)) 0)] ∧ rng IntKind.i64 ((↑k : Int) +
 1) ∧ List.length L - (k + 1) < List.length L - k ∧ Tc_toIntSLa L (li ((↑k : Int) + 1)) (Ob.arr true 1 (List.set (List.map intC (fillTo L k)) (Int.toNat (↑k : Int)) [cI (List.getD
 L k 0)])) = Lc_toIntSLa L (k + 1) ∧ Ic_toIntSLa L (List.length L - (k + 1)) (Lc_toIntSLa L (k + 1))) ∧ (decide ((↑k : Int) < (↑(List.length (List.map intC L)) : Int)) = false →
 True ∧ W0c_toIntSLa L (Ob.arr true 1 (List.map intC (fillTo L k))) = W0c_toIntSLa L (Ob.arr true 1 (List.map intC L)))) := by kernel_rfl
theorem Sc_toIntSLa (L : List Int) (h : List.length L ≤ 1048576)  : LoopSem Try.prog (loopAt Try.f61 0) (Ic_toIntSLa L) (Yc_toIntSLa L) := by
  refine LoopSem.ofHead wide fun k h => ⟨_, _, run_c_toIntSLa L k, ?_⟩
  with_reducible repeat' (first | apply And.intro | exact flatI | exact flatS | exact rowLens | (intro; skip) | apply obsN | apply obsC | apply obA | apply obM | apply obB | apply svA | apply tupA | apply lcA | apply lcS | apply svC | apply liC | apply lbC | apply lsC | apply vIc | apply vBc | apply vSc | apply vLc | apply mapC | apply Hc_toIntSLa | apply Ec_toIntSLa | apply EW0c_toIntSLa)
  all_goals (try simp only [std] at *)
  all_goals (try (first | with_reducible rfl | omega | assumption | (refine (decide_eq_true ?_).symm; assumption) | (refine (decide_eq_false ?_).symm; assumption) | (refine rowGet ?_; (first | omega | (simp only [std]; omega) | grind)) | (refine getC ?_ rfl; (first | omega | (simp only [std]; omega) | grind)) | (refine fill_step ?_ ?_; (first | omega | (simp only [std]; omega) | grind); (first | rfl | exact (Row.eq _).trans rfl)) | (refine fill_init ?_; (first | rfl | exact (Row.eq _).trans rfl)) | grind [fillTo_all, snocI, snocS, rowSnoc]))
theorem run_c_toIntS (L : List Int) : aexec Try.prog (Option.getD (Func.body Try.f61) Code.skip) (entry [] [ll (List.map intC L)] 22) [Orc.ghost (Ghost.sel [0] [0, 3, 4]), Orc.loop
 (List.length L - 0) (Lc_toIntSLa L 0) (Ic_toIntSLa L) [(True, AEx.exit 0, W0c_toIntSLa L (Ob.arr true 1 (List.map intC L)), [Orc.fin [0]])]] (finK Try.prog [ResultVar.tmp 2]
 [Ob.arr true 1 (List.map intC L)] (AV.sv (SV.one (AC.ref 0)))) = (List.length (List.map intC L) ≤ 9223372036854775807 → (0 ≤ (↑(List.length (List.map intC L)) : Int) ∧ 8 *
 Int.toNat (↑(List.length (List.map intC L)) : Int) ≤ 281474976710656) ∧ Tc_toIntSLa L (li 0) (Ob.arr true 1 (List.replicate (Int.toNat (↑(List.length (List.map intC L)) : Int))
 [cI 0])) = Lc_toIntSLa L 0 ∧ Ic_toIntSLa L (List.length L - 0) (Lc_toIntSLa L 0) ∧ LoopSem Try.prog (loopAt Try.f61 0) (Ic_toIntSLa L) (Yc_toIntSLa L) ∧ (True → ObsEq [Ob.arr true
 1 (List.map intC L)] [Ob.arr true 1 (List.map intC L)] ∧ AV.sv (SV.one (AC.ref 0)) = AV.sv (SV.one (AC.ref 0))) ∧ True) := by kernel_rfl
theorem c_toIntS (L : List Int) (h : L.length ≤ 1048576)  : P_c_toIntS L := by
  refine CallOK.ofRun wide (run_c_toIntS L) Try.call61 Try.func61 rfl rfl rfl ?_
  with_reducible repeat' (first | apply And.intro | exact flatI | exact flatS | exact rowLens | (intro; skip) | apply obsN | apply obsC | apply obA | apply obM | apply obB | apply svA | apply tupA | apply lcA | apply lcS | apply svC | apply liC | apply lbC | apply lsC | apply vIc | apply vBc | apply vSc | apply vLc | apply mapC | apply Hc_toIntSLa | apply Ec_toIntSLa | apply Sc_toIntSLa | apply EW0c_toIntSLa)
  all_goals (try simp only [std] at *)
  all_goals (try (first | with_reducible rfl | omega | assumption | (refine (decide_eq_true ?_).symm; assumption) | (refine (decide_eq_false ?_).symm; assumption) | (refine rowGet ?_; (first | omega | (simp only [std]; omega) | grind)) | (refine getC ?_ rfl; (first | omega | (simp only [std]; omega) | grind)) | (refine fill_step ?_ ?_; (first | omega | (simp only [std]; omega) | grind); (first | rfl | exact (Row.eq _).trans rfl)) | (refine fill_init ?_; (first | rfl | exact (Row.eq _).trans rfl)) | grind [snocI, snocS, rowSnoc]))
abbrev P_c_toSyntaxS (L : List Syntax) : Prop := CallOK Try.prog 86 [] [ll (L.map syntaxC)] [.arr true 5 (L.map syntaxC)] (.sv (.one (.ref 0)))
abbrev P_c_toSyntax (x : Syntax) : Prop := CallOK Try.prog 54 [] [syntaxA x] (syntaxO x) (.sv (syntaxR x 0))
def Tc_toSyntaxSLa (L : List Syntax) (x0 : SV) (x1 : Ob) : St := St.mk (regsOf 23 [(0, AV.sv (ll (List.map syntaxC L))), (3, AV.sv (SV.one (AC.ref 0))), (4, AV.sv x0)]) [x1] 0 
def Lc_toSyntaxSLa (L : List Syntax) (k : Nat) : St := Tc_toSyntaxSLa L (li (↑k : Int)) (Ob.arr true 5 (List.map syntaxC (fillTo L k))) 
def Ic_toSyntaxSLa (L : List Syntax) : Nat → St → Prop := Head (Lc_toSyntaxSLa L) (fun k => k ≤ List.length L ∧ List.length L ≤ 9223372036854775807) fun k => List.length L - k 
def W0c_toSyntaxSLa (L : List Syntax) (x0 : Ob) : St := St.mk (regsOf 23 [(3, AV.sv (SV.one (AC.ref 0)))]) [x0] 0 
def Yc_toSyntaxSLa (L : List Syntax) : List (Prop × AEx × St) := [(True, AEx.exit 0, W0c_toSyntaxSLa L (Ob.arr true 5 (List.map syntaxC L)))]
theorem Hc_toSyntaxSLa {L : List Syntax} {k : Nat} {m : Nat} (h : (fun k => k ≤ List.length L ∧ List.length L ≤ 9223372036854775807) k) (hm : (fun k => List.length L - k) k = m) :
 Ic_toSyntaxSLa L m (Lc_toSyntaxSLa L k) := hm ▸ Head.mk h
theorem Ec_toSyntaxSLa {L : List Syntax} {k : Nat} {x0 : SV} {x1 : Ob} (h0 : x0 = (li (↑k : Int))) (h1 : x1 = (Ob.arr true 5 (List.map syntaxC (fillTo L k)))) : Tc_toSyntaxSLa L x0
 x1 = Lc_toSyntaxSLa L k := by
  rw [h0, h1]
  rfl
theorem EW0c_toSyntaxSLa {L : List Syntax} {x0 y0 : Ob} (h0 : x0 = y0) : W0c_toSyntaxSLa L x0 = W0c_toSyntaxSLa L y0 := by rw [h0]
theorem run_c_toSyntaxSLa (L : List Syntax) (k : Nat) : aexec Try.prog (loopAt Try.f86 0) (Lc_toSyntaxSLa L k) [Orc.br [Orc.cells (syntaxF (List.getD L k default)), Orc.call
 [Mode.rd] (syntaxO (List.getD L k default)) (AV.sv (syntaxR (List.getD L k default) 0)), Orc.cells (syntaxF (List.getD (fillTo L k) (Int.toNat (↑k : Int)) default)), Orc.ghost
 (Ghost.sel [0] [0, 3, 4]), Orc.goto (List.length L - (k + 1)) (Lc_toSyntaxSLa L (k + 1))] [Orc.ghost (Ghost.sel [0] [3]), Orc.out 0]] (loopK (Ic_toSyntaxSLa L) (Yc_toSyntaxSLa L)
 (List.length L - k)) = (List.length (List.map syntaxC L) ≤ 9223372036854775807 → (decide ((↑k : Int) < (↑(List.length (List.map syntaxC L)) : Int)) = true → (0 ≤ (↑k : Int) ∧
 (List.map syntaxC L)[Int.toNat (↑k : Int)]? = some (syntaxF (List.getD L k default))) ∧ P_c_toSyntax (List.getD L k default) ∧ (0 ≤ (↑k : Int) ∧ Int.toNat (↑k : Int) < List.length
 (List.map syntaxC (fillTo L k))) ∧ (List.map syntaxC (fillTo L k))[Int.toNat (↑k : Int)]? = some (syntaxF (List.getD (fillTo L k) (Int.toNat (↑k : Int)) default)) ∧ rng
 IntKind.i64 ((↑k : Int) + 1) ∧ List.length L - (k + 1) < List.length L - k ∧ Tc_toSyntaxSLa L (li ((↑k : Int) + 1)) (Ob.arr true 5 (List.set (List.map syntaxC (fillTo L k))
 (Int.toNat (↑k : Int)) (syntaxF (List.getD L k default)))) = Lc_toSyntaxSLa L (k + 1) ∧ Ic_toSyntaxSLa L (List.length L - (k + 1)) (Lc_toSyntaxSLa L (k + 1))) ∧ (decide ((↑k :
 Int) < (↑(List.length (List.map syntaxC L)) : Int)) = false → True ∧ W0c_toSyntaxSLa L (Ob.arr true 5 (List.map syntaxC (fillTo L k))) = W0c_toSyntaxSLa L (Ob.arr true 5 (List.map
 syntaxC L)))) := by kernel_rfl
theorem Sc_toSyntaxSLa (L : List Syntax) (h : List.length L + sumBy wY L ≤ 1048576) (ih : ∀ (x : Syntax), x ∈ L → wY x ≤ 1048576 → P_c_toSyntax x)  : LoopSem Try.prog (loopAt
 Try.f86 0) (Ic_toSyntaxSLa L) (Yc_toSyntaxSLa L) := by
  refine LoopSem.ofHead wide fun k h => ⟨_, _, run_c_toSyntaxSLa L k, ?_⟩
  with_reducible repeat' (first | apply And.intro | exact flatI | exact flatS | exact rowLens | exact ih | (intro; skip) | apply obsN | apply obsC | apply obA | apply obM | apply obB | apply svA | apply tupA | apply lcA | apply lcS | apply svC | apply liC | apply lbC | apply lsC | apply vIc | apply vBc | apply vSc | apply vLc | apply mapC | apply Hc_toSyntaxSLa | apply Ec_toSyntaxSLa | apply EW0c_toSyntaxSLa | apply ih)
  all_goals (try simp only [std] at *)
  all_goals (try (first | with_reducible rfl | omega | assumption | (refine (decide_eq_true ?_).symm; assumption) | (refine (decide_eq_false ?_).symm; assumption) | (refine rowGet ?_; (first | omega | (simp only [std]; omega) | grind)) | (refine getC ?_ rfl; (first | omega | (simp only [std]; omega) | grind)) | (refine fill_step ?_ ?_; (first | omega | (simp only [std]; omega) | grind); (first | rfl | exact (Row.eq _).trans rfl)) | (refine fill_init ?_; (first | rfl | exact (Row.eq _).trans rfl)) | grind [fillTo_all, getD_mem', sumBy_mem, snocI, snocS, rowSnoc]))
theorem run_c_toSyntaxS (L : List Syntax) : aexec Try.prog (Option.getD (Func.body Try.f86) Code.skip) (entry [] [ll (List.map syntaxC L)] 23) [Orc.ghost (Ghost.sel [0] [0, 3, 4]),
 Orc.loop (List.length L - 0) (Lc_toSyntaxSLa L 0) (Ic_toSyntaxSLa L) [(True, AEx.exit 0, W0c_toSyntaxSLa L (Ob.arr true 5 (List.map syntaxC L)), [Orc.fin [0]])]] (finK Try.prog
 [ResultVar.tmp 2] [Ob.arr true 5 (List.map syntaxC L)] (AV.sv (SV.one (AC.ref 0)))) = (List.length (List.map syntaxC L) ≤ 9223372036854775807 → (0 ≤ (↑(List.length (List.map
 syntaxC L)) : Int) ∧ 80 * Int.toNat (↑(List.length (List.map syntaxC L)) : Int) ≤ 281474976710656) ∧ Tc_toSyntaxSLa L (li 0) (Ob.arr true 5 (List.replicate (Int.toNat
 (↑(List.length (List.map syntaxC L)) : Int)) [cI 0, cI 0, cS (ByteArray.mk #[]), Cell.list [], Cell.list []])) = Lc_toSyntaxSLa L 0 ∧ Ic_toSyntaxSLa L (List.length L - 0)
 (Lc_toSyntaxSLa L 0) ∧ LoopSem Try.prog (loopAt Try.f86 0) (Ic_toSyntaxSLa L) (Yc_toSyntaxSLa L) ∧ (True → ObsEq [Ob.arr true 5 (List.map syntaxC L)] [Ob.arr true 5 (List.map
 syntaxC L)] ∧ AV.sv (SV.one (AC.ref 0)) = AV.sv (SV.one (AC.ref 0))) ∧ True) := by kernel_rfl
theorem c_toSyntaxS (L : List Syntax) (h : L.length + sumBy wY L ≤ 1048576) (ih : ∀ x ∈ L, ∀ (h : wY x ≤ 1048576), P_c_toSyntax x)  : P_c_toSyntaxS L := by
  refine CallOK.ofRun wide (run_c_toSyntaxS L) Try.call86 Try.func86 rfl rfl rfl ?_
  with_reducible repeat' (first | apply And.intro | exact flatI | exact flatS | exact rowLens | exact ih | (intro; skip) | apply obsN | apply obsC | apply obA | apply obM | apply obB | apply svA | apply tupA | apply lcA | apply lcS | apply svC | apply liC | apply lbC | apply lsC | apply vIc | apply vBc | apply vSc | apply vLc | apply mapC | apply Hc_toSyntaxSLa | apply Ec_toSyntaxSLa | apply Sc_toSyntaxSLa | apply EW0c_toSyntaxSLa)
  all_goals (try simp only [std] at *)
  all_goals (try (first | with_reducible rfl | omega | assumption | (refine (decide_eq_true ?_).symm; assumption) | (refine (decide_eq_false ?_).symm; assumption) | (refine rowGet ?_; (first | omega | (simp only [std]; omega) | grind)) | (refine getC ?_ rfl; (first | omega | (simp only [std]; omega) | grind)) | (refine fill_step ?_ ?_; (first | omega | (simp only [std]; omega) | grind); (first | rfl | exact (Row.eq _).trans rfl)) | (refine fill_init ?_; (first | rfl | exact (Row.eq _).trans rfl)) | grind [snocI, snocS, rowSnoc]))
theorem run_c_toSyntax_s (x : Syntax) : aexec Try.prog (Option.getD (Func.body Try.f54) Code.skip) (entry [] [syntaxA x] 22) [Orc.call [Mode.rd] [Ob.arr true 1 (List.map intC
 (Syntax.scopes x))] (AV.sv (SV.one (AC.ref 0))), Orc.call [Mode.rd] [Ob.arr true 5 (List.map syntaxC (Syntax.items x))] (AV.sv (SV.one (AC.ref 0))), Orc.fin [3, 4]] (finK Try.prog
 [ResultVar.cell 2 83] (syntaxO x) (AV.sv (syntaxR x 0))) = (P_c_toIntS (Syntax.scopes x) ∧ P_c_toSyntaxS (Syntax.items x) ∧ ObsEq [Ob.arr true 1 (List.map intC (Syntax.scopes x)),
 Ob.arr true 5 (List.map syntaxC (Syntax.items x))] [Ob.arr true 1 (List.map intC (Syntax.scopes x)), Ob.arr true 5 (List.map syntaxC (Syntax.items x))] ∧ AV.sv (SV.agg [vI
 (Syntax.kind x), vI (Syntax.number x), vS (Syntax.text x), AC.ref 0, AC.ref 1]) = AV.sv (SV.agg [vI (Syntax.kind x), vI (Syntax.number x), vS (Syntax.text x), AC.ref 0, AC.ref
 1])) := by kernel_rfl
theorem c_toSyntax_s (x : Syntax) (h : wY x ≤ 1048576) (ih : ∀ z ∈ x.items, ∀ (h : wY z ≤ 1048576), P_c_toSyntax z)  : P_c_toSyntax x := by
  refine CallOK.ofRun wide (run_c_toSyntax_s x) Try.call54 Try.func54 rfl rfl rfl ?_
  with_reducible repeat' (first | apply And.intro | exact flatI | exact flatS | exact rowLens | exact ih | (intro; skip) | apply obsN | apply obsC | apply obA | apply obM | apply obB | apply svA | apply tupA | apply lcA | apply lcS | apply svC | apply liC | apply lbC | apply lsC | apply vIc | apply vBc | apply vSc | apply vLc | apply mapC | apply c_toIntS | apply c_toSyntaxS | apply ih)
  all_goals (try simp only [std] at *)
  all_goals (try (first | with_reducible rfl | omega | assumption | (refine (decide_eq_true ?_).symm; assumption) | (refine (decide_eq_false ?_).symm; assumption) | (refine rowGet ?_; (first | omega | (simp only [std]; omega) | grind)) | (refine getC ?_ rfl; (first | omega | (simp only [std]; omega) | grind)) | (refine fill_step ?_ ?_; (first | omega | (simp only [std]; omega) | grind); (first | rfl | exact (Row.eq _).trans rfl)) | (refine fill_init ?_; (first | rfl | exact (Row.eq _).trans rfl)) | grind [wY_eq, wS, snocI, snocS, rowSnoc]))
theorem c_toSyntax (x : Syntax) : ∀ (h : wY x ≤ 1048576), P_c_toSyntax x := Syntax.ind (P := fun x => ∀ (h : wY x ≤ 1048576), P_c_toSyntax x) (fun x ih h => c_toSyntax_s x h ih) x
abbrev P_c_toBinding (x : Binding) : Prop := CallOK Try.prog 230 [] [bindingA x] (bindingO x) (.sv (bindingR x 0))
theorem run_c_toBinding (x : Binding) : aexec Try.prog (Option.getD (Func.body Try.f230) Code.skip) (entry [] [bindingA x] 18) [Orc.call [Mode.rd] [Ob.arr true 1 (List.map intC
 (Binding.scopes x))] (AV.sv (SV.one (AC.ref 0))), Orc.fin [3]] (finK Try.prog [ResultVar.cell 2 236] (bindingO x) (AV.sv (bindingR x 0))) = (P_c_toIntS (Binding.scopes x) ∧ ObsEq
 [Ob.arr true 1 (List.map intC (Binding.scopes x))] [Ob.arr true 1 (List.map intC (Binding.scopes x))] ∧ AV.sv (SV.agg [vS (Binding.text x), AC.ref 0, vI (Binding.kind x), vI
 (Binding.number x)]) = AV.sv (SV.agg [vS (Binding.text x), AC.ref 0, vI (Binding.kind x), vI (Binding.number x)])) := by kernel_rfl
theorem c_toBinding (x : Binding) (h : wB x ≤ 1048576)  : P_c_toBinding x := by
  refine CallOK.ofRun wide (run_c_toBinding x) Try.call230 Try.func230 rfl rfl rfl ?_
  with_reducible repeat' (first | apply And.intro | exact flatI | exact flatS | exact rowLens | (intro; skip) | apply obsN | apply obsC | apply obA | apply obM | apply obB | apply svA | apply tupA | apply lcA | apply lcS | apply svC | apply liC | apply lbC | apply lsC | apply vIc | apply vBc | apply vSc | apply vLc | apply mapC | apply c_toIntS)
  all_goals (try simp only [std] at *)
  all_goals (try (first | with_reducible rfl | omega | assumption | (refine (decide_eq_true ?_).symm; assumption) | (refine (decide_eq_false ?_).symm; assumption) | (refine rowGet ?_; (first | omega | (simp only [std]; omega) | grind)) | (refine getC ?_ rfl; (first | omega | (simp only [std]; omega) | grind)) | (refine fill_step ?_ ?_; (first | omega | (simp only [std]; omega) | grind); (first | rfl | exact (Row.eq _).trans rfl)) | (refine fill_init ?_; (first | rfl | exact (Row.eq _).trans rfl)) | grind [wB_eq, wS, snocI, snocS, rowSnoc]))
abbrev P_c_toBindingS (L : List Binding) : Prop := CallOK Try.prog 136 [] [ll (L.map bindingC)] [.arr true 4 (L.map bindingC)] (.sv (.one (.ref 0)))
def Tc_toBindingSLa (L : List Binding) (x0 : SV) (x1 : Ob) : St := St.mk (regsOf 23 [(0, AV.sv (ll (List.map bindingC L))), (3, AV.sv (SV.one (AC.ref 0))), (4, AV.sv x0)]) [x1] 0 
def Lc_toBindingSLa (L : List Binding) (k : Nat) : St := Tc_toBindingSLa L (li (↑k : Int)) (Ob.arr true 4 (List.map bindingC (fillTo L k))) 
def Ic_toBindingSLa (L : List Binding) : Nat → St → Prop := Head (Lc_toBindingSLa L) (fun k => k ≤ List.length L ∧ List.length L ≤ 9223372036854775807) fun k => List.length L - k 
def W0c_toBindingSLa (L : List Binding) (x0 : Ob) : St := St.mk (regsOf 23 [(3, AV.sv (SV.one (AC.ref 0)))]) [x0] 0 
def Yc_toBindingSLa (L : List Binding) : List (Prop × AEx × St) := [(True, AEx.exit 0, W0c_toBindingSLa L (Ob.arr true 4 (List.map bindingC L)))]
theorem Hc_toBindingSLa {L : List Binding} {k : Nat} {m : Nat} (h : (fun k => k ≤ List.length L ∧ List.length L ≤ 9223372036854775807) k) (hm : (fun k => List.length L - k) k = m)
 : Ic_toBindingSLa L m (Lc_toBindingSLa L k) := hm ▸ Head.mk h
theorem Ec_toBindingSLa {L : List Binding} {k : Nat} {x0 : SV} {x1 : Ob} (h0 : x0 = (li (↑k : Int))) (h1 : x1 = (Ob.arr true 4 (List.map bindingC (fillTo L k)))) : Tc_toBindingSLa
 L x0 x1 = Lc_toBindingSLa L k := by
  rw [h0, h1]
  rfl
theorem EW0c_toBindingSLa {L : List Binding} {x0 y0 : Ob} (h0 : x0 = y0) : W0c_toBindingSLa L x0 = W0c_toBindingSLa L y0 := by rw [h0]
theorem run_c_toBindingSLa (L : List Binding) (k : Nat) : aexec Try.prog (loopAt Try.f136 0) (Lc_toBindingSLa L k) [Orc.br [Orc.cells (bindingF (List.getD L k default)), Orc.call
 [Mode.rd] (bindingO (List.getD L k default)) (AV.sv (bindingR (List.getD L k default) 0)), Orc.cells (bindingF (List.getD (fillTo L k) (Int.toNat (↑k : Int)) default)), Orc.ghost
 (Ghost.sel [0] [0, 3, 4]), Orc.goto (List.length L - (k + 1)) (Lc_toBindingSLa L (k + 1))] [Orc.ghost (Ghost.sel [0] [3]), Orc.out 0]] (loopK (Ic_toBindingSLa L) (Yc_toBindingSLa
 L) (List.length L - k)) = (List.length (List.map bindingC L) ≤ 9223372036854775807 → (decide ((↑k : Int) < (↑(List.length (List.map bindingC L)) : Int)) = true → (0 ≤ (↑k : Int) ∧
 (List.map bindingC L)[Int.toNat (↑k : Int)]? = some (bindingF (List.getD L k default))) ∧ P_c_toBinding (List.getD L k default) ∧ (0 ≤ (↑k : Int) ∧ Int.toNat (↑k : Int) <
 List.length (List.map bindingC (fillTo L k))) ∧ (List.map bindingC (fillTo L k))[Int.toNat (↑k : Int)]? = some (bindingF (List.getD (fillTo L k) (Int.toNat (↑k : Int)) default)) ∧
 rng IntKind.i64 ((↑k : Int) + 1) ∧ List.length L - (k + 1) < List.length L - k ∧ Tc_toBindingSLa L (li ((↑k : Int) + 1)) (Ob.arr true 4 (List.set (List.map bindingC (fillTo L k))
 (Int.toNat (↑k : Int)) (bindingF (List.getD L k default)))) = Lc_toBindingSLa L (k + 1) ∧ Ic_toBindingSLa L (List.length L - (k + 1)) (Lc_toBindingSLa L (k + 1))) ∧ (decide ((↑k :
 Int) < (↑(List.length (List.map bindingC L)) : Int)) = false → True ∧ W0c_toBindingSLa L (Ob.arr true 4 (List.map bindingC (fillTo L k))) = W0c_toBindingSLa L (Ob.arr true 4
 (List.map bindingC L)))) := by kernel_rfl
theorem Sc_toBindingSLa (L : List Binding) (h : List.length L + sumBy wB L ≤ 1048576)  : LoopSem Try.prog (loopAt Try.f136 0) (Ic_toBindingSLa L) (Yc_toBindingSLa L) := by
  refine LoopSem.ofHead wide fun k h => ⟨_, _, run_c_toBindingSLa L k, ?_⟩
  with_reducible repeat' (first | apply And.intro | exact flatI | exact flatS | exact rowLens | (intro; skip) | apply obsN | apply obsC | apply obA | apply obM | apply obB | apply svA | apply tupA | apply lcA | apply lcS | apply svC | apply liC | apply lbC | apply lsC | apply vIc | apply vBc | apply vSc | apply vLc | apply mapC | apply Hc_toBindingSLa | apply Ec_toBindingSLa | apply EW0c_toBindingSLa | apply c_toBinding)
  all_goals (try simp only [std] at *)
  all_goals (try (first | with_reducible rfl | omega | assumption | (refine (decide_eq_true ?_).symm; assumption) | (refine (decide_eq_false ?_).symm; assumption) | (refine rowGet ?_; (first | omega | (simp only [std]; omega) | grind)) | (refine getC ?_ rfl; (first | omega | (simp only [std]; omega) | grind)) | (refine fill_step ?_ ?_; (first | omega | (simp only [std]; omega) | grind); (first | rfl | exact (Row.eq _).trans rfl)) | (refine fill_init ?_; (first | rfl | exact (Row.eq _).trans rfl)) | grind [fillTo_all, getD_mem', sumBy_mem, snocI, snocS, rowSnoc]))
theorem run_c_toBindingS (L : List Binding) : aexec Try.prog (Option.getD (Func.body Try.f136) Code.skip) (entry [] [ll (List.map bindingC L)] 23) [Orc.ghost (Ghost.sel [0] [0, 3,
 4]), Orc.loop (List.length L - 0) (Lc_toBindingSLa L 0) (Ic_toBindingSLa L) [(True, AEx.exit 0, W0c_toBindingSLa L (Ob.arr true 4 (List.map bindingC L)), [Orc.fin [0]])]] (finK
 Try.prog [ResultVar.tmp 2] [Ob.arr true 4 (List.map bindingC L)] (AV.sv (SV.one (AC.ref 0)))) = (List.length (List.map bindingC L) ≤ 9223372036854775807 → (0 ≤ (↑(List.length
 (List.map bindingC L)) : Int) ∧ 56 * Int.toNat (↑(List.length (List.map bindingC L)) : Int) ≤ 281474976710656) ∧ Tc_toBindingSLa L (li 0) (Ob.arr true 4 (List.replicate (Int.toNat
 (↑(List.length (List.map bindingC L)) : Int)) [cS (ByteArray.mk #[]), Cell.list [], cI 0, cI 0])) = Lc_toBindingSLa L 0 ∧ Ic_toBindingSLa L (List.length L - 0) (Lc_toBindingSLa L
 0) ∧ LoopSem Try.prog (loopAt Try.f136 0) (Ic_toBindingSLa L) (Yc_toBindingSLa L) ∧ (True → ObsEq [Ob.arr true 4 (List.map bindingC L)] [Ob.arr true 4 (List.map bindingC L)] ∧
 AV.sv (SV.one (AC.ref 0)) = AV.sv (SV.one (AC.ref 0))) ∧ True) := by kernel_rfl
theorem c_toBindingS (L : List Binding) (h : L.length + sumBy wB L ≤ 1048576)  : P_c_toBindingS L := by
  refine CallOK.ofRun wide (run_c_toBindingS L) Try.call136 Try.func136 rfl rfl rfl ?_
  with_reducible repeat' (first | apply And.intro | exact flatI | exact flatS | exact rowLens | (intro; skip) | apply obsN | apply obsC | apply obA | apply obM | apply obB | apply svA | apply tupA | apply lcA | apply lcS | apply svC | apply liC | apply lbC | apply lsC | apply vIc | apply vBc | apply vSc | apply vLc | apply mapC | apply Hc_toBindingSLa | apply Ec_toBindingSLa | apply Sc_toBindingSLa | apply EW0c_toBindingSLa | apply c_toBinding)
  all_goals (try simp only [std] at *)
  all_goals (try (first | with_reducible rfl | omega | assumption | (refine (decide_eq_true ?_).symm; assumption) | (refine (decide_eq_false ?_).symm; assumption) | (refine rowGet ?_; (first | omega | (simp only [std]; omega) | grind)) | (refine getC ?_ rfl; (first | omega | (simp only [std]; omega) | grind)) | (refine fill_step ?_ ?_; (first | omega | (simp only [std]; omega) | grind); (first | rfl | exact (Row.eq _).trans rfl)) | (refine fill_init ?_; (first | rfl | exact (Row.eq _).trans rfl)) | grind [snocI, snocS, rowSnoc]))
abbrev P_c_toRules (x : Rules) : Prop := CallOK Try.prog 95 [] [rulesA x] (rulesO x) (.sv (rulesR x 0))
theorem run_c_toRules (x : Rules) : aexec Try.prog (Option.getD (Func.body Try.f95) Code.skip) (entry [] [rulesA x] 17) [Orc.call [Mode.rd] [Ob.arr true 5 (List.map syntaxC
 (Rules.literals x))] (AV.sv (SV.one (AC.ref 0))), Orc.call [Mode.rd] [Ob.arr true 5 (List.map syntaxC (Rules.patterns x))] (AV.sv (SV.one (AC.ref 0))), Orc.call [Mode.rd] [Ob.arr
 true 5 (List.map syntaxC (Rules.templates x))] (AV.sv (SV.one (AC.ref 0))), Orc.fin [3, 4, 5]] (finK Try.prog [ResultVar.cell 2 145] (rulesO x) (AV.sv (rulesR x 0))) =
 (P_c_toSyntaxS (Rules.literals x) ∧ P_c_toSyntaxS (Rules.patterns x) ∧ P_c_toSyntaxS (Rules.templates x) ∧ ObsEq [Ob.arr true 5 (List.map syntaxC (Rules.literals x)), Ob.arr true
 5 (List.map syntaxC (Rules.patterns x)), Ob.arr true 5 (List.map syntaxC (Rules.templates x))] [Ob.arr true 5 (List.map syntaxC (Rules.literals x)), Ob.arr true 5 (List.map
 syntaxC (Rules.patterns x)), Ob.arr true 5 (List.map syntaxC (Rules.templates x))] ∧ AV.sv (SV.agg [AC.ref 0, AC.ref 1, AC.ref 2]) = AV.sv (SV.agg [AC.ref 0, AC.ref 1, AC.ref 2]))
 := by kernel_rfl
theorem c_toRules (x : Rules) (h : wR x ≤ 1048576)  : P_c_toRules x := by
  refine CallOK.ofRun wide (run_c_toRules x) Try.call95 Try.func95 rfl rfl rfl ?_
  with_reducible repeat' (first | apply And.intro | exact flatI | exact flatS | exact rowLens | (intro; skip) | apply obsN | apply obsC | apply obA | apply obM | apply obB | apply svA | apply tupA | apply lcA | apply lcS | apply svC | apply liC | apply lbC | apply lsC | apply vIc | apply vBc | apply vSc | apply vLc | apply mapC | apply c_toSyntaxS | apply c_toSyntax)
  all_goals (try simp only [std] at *)
  all_goals (try (first | with_reducible rfl | omega | assumption | (refine (decide_eq_true ?_).symm; assumption) | (refine (decide_eq_false ?_).symm; assumption) | (refine rowGet ?_; (first | omega | (simp only [std]; omega) | grind)) | (refine getC ?_ rfl; (first | omega | (simp only [std]; omega) | grind)) | (refine fill_step ?_ ?_; (first | omega | (simp only [std]; omega) | grind); (first | rfl | exact (Row.eq _).trans rfl)) | (refine fill_init ?_; (first | rfl | exact (Row.eq _).trans rfl)) | grind [wR_eq, wS, snocI, snocS, rowSnoc]))
abbrev P_c_toRulesS (L : List Rules) : Prop := CallOK Try.prog 137 [] [ll (L.map rulesC)] [.arr true 3 (L.map rulesC)] (.sv (.one (.ref 0)))
def Tc_toRulesSLa (L : List Rules) (x0 : SV) (x1 : Ob) : St := St.mk (regsOf 23 [(0, AV.sv (ll (List.map rulesC L))), (3, AV.sv (SV.one (AC.ref 0))), (4, AV.sv x0)]) [x1] 0 
def Lc_toRulesSLa (L : List Rules) (k : Nat) : St := Tc_toRulesSLa L (li (↑k : Int)) (Ob.arr true 3 (List.map rulesC (fillTo L k))) 
def Ic_toRulesSLa (L : List Rules) : Nat → St → Prop := Head (Lc_toRulesSLa L) (fun k => k ≤ List.length L ∧ List.length L ≤ 9223372036854775807) fun k => List.length L - k 
def W0c_toRulesSLa (L : List Rules) (x0 : Ob) : St := St.mk (regsOf 23 [(3, AV.sv (SV.one (AC.ref 0)))]) [x0] 0 
def Yc_toRulesSLa (L : List Rules) : List (Prop × AEx × St) := [(True, AEx.exit 0, W0c_toRulesSLa L (Ob.arr true 3 (List.map rulesC L)))]
theorem Hc_toRulesSLa {L : List Rules} {k : Nat} {m : Nat} (h : (fun k => k ≤ List.length L ∧ List.length L ≤ 9223372036854775807) k) (hm : (fun k => List.length L - k) k = m) :
 Ic_toRulesSLa L m (Lc_toRulesSLa L k) := hm ▸ Head.mk h
theorem Ec_toRulesSLa {L : List Rules} {k : Nat} {x0 : SV} {x1 : Ob} (h0 : x0 = (li (↑k : Int))) (h1 : x1 = (Ob.arr true 3 (List.map rulesC (fillTo L k)))) : Tc_toRulesSLa L x0 x1
 = Lc_toRulesSLa L k := by
  rw [h0, h1]
  rfl
theorem EW0c_toRulesSLa {L : List Rules} {x0 y0 : Ob} (h0 : x0 = y0) : W0c_toRulesSLa L x0 = W0c_toRulesSLa L y0 := by rw [h0]
theorem run_c_toRulesSLa (L : List Rules) (k : Nat) : aexec Try.prog (loopAt Try.f137 0) (Lc_toRulesSLa L k) [Orc.br [Orc.cells (rulesF (List.getD L k default)), Orc.call [Mode.rd]
 (rulesO (List.getD L k default)) (AV.sv (rulesR (List.getD L k default) 0)), Orc.cells (rulesF (List.getD (fillTo L k) (Int.toNat (↑k : Int)) default)), Orc.ghost (Ghost.sel [0]
 [0, 3, 4]), Orc.goto (List.length L - (k + 1)) (Lc_toRulesSLa L (k + 1))] [Orc.ghost (Ghost.sel [0] [3]), Orc.out 0]] (loopK (Ic_toRulesSLa L) (Yc_toRulesSLa L) (List.length L -
 k)) = (List.length (List.map rulesC L) ≤ 9223372036854775807 → (decide ((↑k : Int) < (↑(List.length (List.map rulesC L)) : Int)) = true → (0 ≤ (↑k : Int) ∧ (List.map rulesC
 L)[Int.toNat (↑k : Int)]? = some (rulesF (List.getD L k default))) ∧ P_c_toRules (List.getD L k default) ∧ (0 ≤ (↑k : Int) ∧ Int.toNat (↑k : Int) < List.length (List.map rulesC
 (fillTo L k))) ∧ (List.map rulesC (fillTo L k))[Int.toNat (↑k : Int)]? = some (rulesF (List.getD (fillTo L k) (Int.toNat (↑k : Int)) default)) ∧ rng IntKind.i64 ((↑k : Int) + 1) ∧
 List.length L - (k + 1) < List.length L - k ∧ Tc_toRulesSLa L (li ((↑k : Int) + 1)) (Ob.arr true 3 (List.set (List.map rulesC (fillTo L k)) (Int.toNat (↑k : Int)) (rulesF
 (List.getD L k default)))) = Lc_toRulesSLa L (k + 1) ∧ Ic_toRulesSLa L (List.length L - (k + 1)) (Lc_toRulesSLa L (k + 1))) ∧ (decide ((↑k : Int) < (↑(List.length (List.map rulesC
 L)) : Int)) = false → True ∧ W0c_toRulesSLa L (Ob.arr true 3 (List.map rulesC (fillTo L k))) = W0c_toRulesSLa L (Ob.arr true 3 (List.map rulesC L)))) := by kernel_rfl
theorem Sc_toRulesSLa (L : List Rules) (h : List.length L + sumBy wR L ≤ 1048576)  : LoopSem Try.prog (loopAt Try.f137 0) (Ic_toRulesSLa L) (Yc_toRulesSLa L) := by
  refine LoopSem.ofHead wide fun k h => ⟨_, _, run_c_toRulesSLa L k, ?_⟩
  with_reducible repeat' (first | apply And.intro | exact flatI | exact flatS | exact rowLens | (intro; skip) | apply obsN | apply obsC | apply obA | apply obM | apply obB | apply svA | apply tupA | apply lcA | apply lcS | apply svC | apply liC | apply lbC | apply lsC | apply vIc | apply vBc | apply vSc | apply vLc | apply mapC | apply Hc_toRulesSLa | apply Ec_toRulesSLa | apply EW0c_toRulesSLa | apply c_toRules)
  all_goals (try simp only [std] at *)
  all_goals (try (first | with_reducible rfl | omega | assumption | (refine (decide_eq_true ?_).symm; assumption) | (refine (decide_eq_false ?_).symm; assumption) | (refine rowGet ?_; (first | omega | (simp only [std]; omega) | grind)) | (refine getC ?_ rfl; (first | omega | (simp only [std]; omega) | grind)) | (refine fill_step ?_ ?_; (first | omega | (simp only [std]; omega) | grind); (first | rfl | exact (Row.eq _).trans rfl)) | (refine fill_init ?_; (first | rfl | exact (Row.eq _).trans rfl)) | grind [fillTo_all, getD_mem', sumBy_mem, snocI, snocS, rowSnoc]))
theorem run_c_toRulesS (L : List Rules) : aexec Try.prog (Option.getD (Func.body Try.f137) Code.skip) (entry [] [ll (List.map rulesC L)] 23) [Orc.ghost (Ghost.sel [0] [0, 3, 4]),
 Orc.loop (List.length L - 0) (Lc_toRulesSLa L 0) (Ic_toRulesSLa L) [(True, AEx.exit 0, W0c_toRulesSLa L (Ob.arr true 3 (List.map rulesC L)), [Orc.fin [0]])]] (finK Try.prog
 [ResultVar.tmp 2] [Ob.arr true 3 (List.map rulesC L)] (AV.sv (SV.one (AC.ref 0)))) = (List.length (List.map rulesC L) ≤ 9223372036854775807 → (0 ≤ (↑(List.length (List.map rulesC
 L)) : Int) ∧ 72 * Int.toNat (↑(List.length (List.map rulesC L)) : Int) ≤ 281474976710656) ∧ Tc_toRulesSLa L (li 0) (Ob.arr true 3 (List.replicate (Int.toNat (↑(List.length
 (List.map rulesC L)) : Int)) [Cell.list [], Cell.list [], Cell.list []])) = Lc_toRulesSLa L 0 ∧ Ic_toRulesSLa L (List.length L - 0) (Lc_toRulesSLa L 0) ∧ LoopSem Try.prog (loopAt
 Try.f137 0) (Ic_toRulesSLa L) (Yc_toRulesSLa L) ∧ (True → ObsEq [Ob.arr true 3 (List.map rulesC L)] [Ob.arr true 3 (List.map rulesC L)] ∧ AV.sv (SV.one (AC.ref 0)) = AV.sv (SV.one
 (AC.ref 0))) ∧ True) := by kernel_rfl
theorem c_toRulesS (L : List Rules) (h : L.length + sumBy wR L ≤ 1048576)  : P_c_toRulesS L := by
  refine CallOK.ofRun wide (run_c_toRulesS L) Try.call137 Try.func137 rfl rfl rfl ?_
  with_reducible repeat' (first | apply And.intro | exact flatI | exact flatS | exact rowLens | (intro; skip) | apply obsN | apply obsC | apply obA | apply obM | apply obB | apply svA | apply tupA | apply lcA | apply lcS | apply svC | apply liC | apply lbC | apply lsC | apply vIc | apply vBc | apply vSc | apply vLc | apply mapC | apply Hc_toRulesSLa | apply Ec_toRulesSLa | apply Sc_toRulesSLa | apply EW0c_toRulesSLa | apply c_toRules)
  all_goals (try simp only [std] at *)
  all_goals (try (first | with_reducible rfl | omega | assumption | (refine (decide_eq_true ?_).symm; assumption) | (refine (decide_eq_false ?_).symm; assumption) | (refine rowGet ?_; (first | omega | (simp only [std]; omega) | grind)) | (refine getC ?_ rfl; (first | omega | (simp only [std]; omega) | grind)) | (refine fill_step ?_ ?_; (first | omega | (simp only [std]; omega) | grind); (first | rfl | exact (Row.eq _).trans rfl)) | (refine fill_init ?_; (first | rfl | exact (Row.eq _).trans rfl)) | grind [snocI, snocS, rowSnoc]))
abbrev P_c_toExpander (x : Expander) : Prop := CallOK Try.prog 40 [] [expanderA x] (expanderO x) (.sv (expanderR x 0))
theorem run_c_toExpander (x : Expander) : aexec Try.prog (Option.getD (Func.body Try.f40) Code.skip) (entry [] [expanderA x] 22) [Orc.call [Mode.rd] [Ob.arr true 4 (List.map
 bindingC (Expander.bindings x))] (AV.sv (SV.one (AC.ref 0))), Orc.call [Mode.rd] [Ob.arr true 3 (List.map rulesC (Expander.macros x))] (AV.sv (SV.one (AC.ref 0))), Orc.fin [3, 4]]
 (finK Try.prog [ResultVar.cell 2 25] (expanderO x) (AV.sv (expanderR x 0))) = (P_c_toBindingS (Expander.bindings x) ∧ P_c_toRulesS (Expander.macros x) ∧ ObsEq [Ob.arr true 4
 (List.map bindingC (Expander.bindings x)), Ob.arr true 3 (List.map rulesC (Expander.macros x))] [Ob.arr true 4 (List.map bindingC (Expander.bindings x)), Ob.arr true 3 (List.map
 rulesC (Expander.macros x))] ∧ AV.sv (SV.agg [AC.ref 0, AC.ref 1, vI (Expander.scope x), vI (Expander.vari x), vI (Expander.steps x)]) = AV.sv (SV.agg [AC.ref 0, AC.ref 1, vI
 (Expander.scope x), vI (Expander.vari x), vI (Expander.steps x)])) := by kernel_rfl
theorem c_toExpander (x : Expander) (h : wX x ≤ 1048576)  : P_c_toExpander x := by
  refine CallOK.ofRun wide (run_c_toExpander x) Try.call40 Try.func40 rfl rfl rfl ?_
  with_reducible repeat' (first | apply And.intro | exact flatI | exact flatS | exact rowLens | (intro; skip) | apply obsN | apply obsC | apply obA | apply obM | apply obB | apply svA | apply tupA | apply lcA | apply lcS | apply svC | apply liC | apply lbC | apply lsC | apply vIc | apply vBc | apply vSc | apply vLc | apply mapC | apply c_toBindingS | apply c_toRulesS)
  all_goals (try simp only [std] at *)
  all_goals (try (first | with_reducible rfl | omega | assumption | (refine (decide_eq_true ?_).symm; assumption) | (refine (decide_eq_false ?_).symm; assumption) | (refine rowGet ?_; (first | omega | (simp only [std]; omega) | grind)) | (refine getC ?_ rfl; (first | omega | (simp only [std]; omega) | grind)) | (refine fill_step ?_ ?_; (first | omega | (simp only [std]; omega) | grind); (first | rfl | exact (Row.eq _).trans rfl)) | (refine fill_init ?_; (first | rfl | exact (Row.eq _).trans rfl)) | grind [wX_eq, wS, snocI, snocS, rowSnoc]))
end Go.Proofs.Ytehpjofddjmbpaa
end
