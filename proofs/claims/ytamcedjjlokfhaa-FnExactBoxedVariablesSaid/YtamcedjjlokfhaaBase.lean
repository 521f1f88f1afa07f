/- What all the contracts' texts share: the program's setting, small lemmas on lists, numbers and cells. No condition. -/
import Derived.Test.YtamcedjjlokfhaaRows
import Derived.Test.YtamcedjjlokfhaaAb40
namespace Go.Proofs.Ytamcedjjlokfhaa
open Go Go.Proofs.Ytamcedjjlokfhaa.Ab
set_option linter.unusedVariables false

theorem wide : Try.prog.follows .mixedOrders = true := by kernel_rfl

theorem drop_get {α : Type} [Inhabited α] {L : List α} {k : Nat} (h : k < L.length) : L.drop k = L.getD k default :: L.drop (k + 1) := by
  rw [List.drop_eq_getElem_cons h]; simp [h]
theorem take_get {α : Type} [Inhabited α] {L : List α} {k : Nat} (h : k < L.length) : L.take (k + 1) = L.take k ++ [L.getD k default] := by
  rw [List.take_succ_eq_append_getElem h]; simp [h]
theorem getD_mem' {α : Type} [Inhabited α] {L : List α} {k : Nat} (h : k < L.length) : L.getD k default ∈ L := by simp [h]
theorem size_list (s : ByteArray) : s.data.toList.length = s.size := rfl
theorem rng64 {n : Int} : rng .i64 n ↔ -9223372036854775808 ≤ n ∧ n ≤ 9223372036854775807 := rng_i64
theorem obsEq_iff (a b : List Ob) : ObsEq a b ↔ a = b := Iff.rfl
theorem obsN : ObsEq [] [] := rfl
theorem obsC {a b : Ob} {l m : List Ob} (h1 : a = b) (h2 : ObsEq l m) : ObsEq (a :: l) (b :: m) := by
  subst h1; exact congrArg (List.cons a) h2
theorem obA {o : Bool} {z : Nat} {x y : List (List Cell)} (h : x = y) : Ob.arr o z x = Ob.arr o z y := by rw [h]
theorem obM {z z' : Bool} {k : MK} {f f' : Value → Option Cell} (h1 : z = z') (h2 : f = f') : Ob.map z k f = Ob.map z' k f' := by rw [h1, h2]
theorem svA {l m : List AC} (h : l = m) : AV.sv (SV.agg l) = AV.sv (SV.agg m) := by rw [h]
theorem sgA {l m : List AC} (h : l = m) : SV.agg l = SV.agg m := by rw [h]
theorem lcA {a b : AC} {l m : List AC} (h1 : a = b) (h2 : l = m) : a :: l = b :: m := by rw [h1, h2]
theorem tupA {l m : List SV} (h : l = m) : AV.tup l = AV.tup m := by rw [h]
theorem lcS {a b : SV} {l m : List SV} (h1 : a = b) (h2 : l = m) : a :: l = b :: m := by rw [h1, h2]
theorem liC {a b : Int} (h : a = b) : li a = li b := by rw [h]
theorem lbC {a b : Bool} (h : a = b) : lb a = lb b := by rw [h]
theorem lsC {a b : ByteArray} (h : a = b) : ls a = ls b := by rw [h]
theorem llC {a b : List (List Cell)} (h : a = b) : ll a = ll b := by rw [h]
theorem vIc {a b : Int} (h : a = b) : vI a = vI b := by rw [h]
theorem vBc {a b : Bool} (h : a = b) : vB a = vB b := by rw [h]
theorem vSc {a b : ByteArray} (h : a = b) : vS a = vS b := by rw [h]
theorem vLc {a b : List (List Cell)} (h : a = b) : vL a = vL b := by rw [h]
theorem svO {a b : AC} (h : a = b) : AV.sv (SV.one a) = AV.sv (SV.one b) := by rw [h]
theorem svC {a b : SV} (h : a = b) : AV.sv a = AV.sv b := by rw [h]
theorem obB {l m : List AC} (h : l = m) : Ob.box l = Ob.box m := by rw [h]
theorem mapC {α : Type} {f : α → List Cell} {a b : List α} (h : a = b) : a.map f = b.map f := by rw [h]
theorem mIc {g g' : Int → Int} (h : g = g') : mI g = mI g' := by rw [h]
theorem mOc {g g' : Int → Option Int} (h : g = g') : mO g = mO g' := by rw [h]
theorem mSc {g g' : ByteArray → Int} (h : g = g') : mS g = mS g' := by rw [h]
theorem mLc {g g' : ByteArray → List Int} (h : g = g') : mL g = mL g' := by rw [h]
theorem snocI (S : List Int) (n : Int) : S.map intC ++ [[cI n]] = (S ++ [n]).map intC := by simp [intC]
theorem snocS (S : List ByteArray) (n : ByteArray) : S.map strC ++ [[cS n]] = (S ++ [n]).map strC := by simp [strC]
theorem flatI {L : List Int} : ∀ e ∈ L.map intC, ∀ c ∈ e, ∃ v, c = Cell.lit v := by
  intro e he c hc
  obtain ⟨x, _, rfl⟩ := List.mem_map.1 he
  rw [List.mem_singleton.1 hc]; exact ⟨_, rfl⟩
theorem flatS {L : List ByteArray} : ∀ e ∈ L.map strC, ∀ c ∈ e, ∃ v, c = Cell.lit v := by
  intro e he c hc
  obtain ⟨x, _, rfl⟩ := List.mem_map.1 he
  rw [List.mem_singleton.1 hc]; exact ⟨_, rfl⟩
theorem lenI (L : List Int) : ∀ e ∈ L.map intC, e.length = 1 := by
  intro e he
  obtain ⟨x, _, rfl⟩ := List.mem_map.1 he; rfl
theorem lenS (L : List ByteArray) : ∀ e ∈ L.map strC, e.length = 1 := by
  intro e he
  obtain ⟨x, _, rfl⟩ := List.mem_map.1 he; rfl
theorem getC {α : Type} [Inhabited α] {f : α → List Cell} {L : List α} {i : Nat} {x : List Cell} (h : i < L.length) (hx : f (L.getD i default) = x) : (L.map f)[i]? = some x := by
  subst hx; simp [h]
theorem take_eq {α : Type} [Inhabited α] {A B : List α} {k : Nat} (h : k < A.length) (hl : A.length = B.length) : A.take (k + 1) = B.take (k + 1) ↔ A.take k = B.take k ∧ A.getD k default = B.getD k default := by
  rw [take_get h, take_get (by omega : k < B.length)]
  constructor
  · intro e
    have := List.append_inj e (by simp; omega)
    exact ⟨this.1, by simpa using this.2⟩
  · rintro ⟨e1, e2⟩; rw [e1, e2]
theorem take_self {α : Type} {A B : List α} (hl : A.length = B.length) (h : A.take A.length = B.take A.length) : A = B := by
  rw [List.take_length, hl, List.take_length] at h; exact h
theorem bytes_ext (a b : ByteArray) : a.data.toList = b.data.toList ↔ a = b := by
  constructor
  · intro h; cases a; cases b; simp at h; subst h; rfl
  · intro h; rw [h]
theorem append_bytes (a b : ByteArray) : (⟨(a.data.toList ++ b.data.toList).toArray⟩ : ByteArray) = a ++ b := by
  apply (bytes_ext _ _).1; simp
theorem lb_inj (a b : Bool) : AV.sv (lb a) = AV.sv (lb b) ↔ a = b := by simp [lb, vB, cB]
theorem li_inj (a b : Int) : AV.sv (li a) = AV.sv (li b) ↔ a = b := by simp [li, vI, cI]
theorem ls_inj (a b : ByteArray) : AV.sv (ls a) = AV.sv (ls b) ↔ a = b := by simp [ls, vS, cS]
/-- an array that is filled from its beginning -/
def fillTo {α : Type} [Inhabited α] (L : List α) (k : Nat) : List α := L.take k ++ List.replicate (L.length - k) default
theorem fillTo_len {α : Type} [Inhabited α] (L : List α) (k : Nat) : (fillTo L k).length = L.length := by simp [fillTo]; omega
theorem fillTo_zero {α : Type} [Inhabited α] (L : List α) : fillTo L 0 = List.replicate L.length default := by simp [fillTo]
theorem fillTo_all {α : Type} [Inhabited α] (L : List α) {k : Nat} (h : L.length ≤ k) : fillTo L k = L := by simp [fillTo, List.take_of_length_le h, Nat.sub_eq_zero_of_le h]
theorem fillTo_set {α : Type} [Inhabited α] {L : List α} {k : Nat} (h : k < L.length) : (fillTo L k).set k (L.getD k default) = fillTo L (k + 1) := by
  unfold fillTo
  rw [take_get h, show L.length - k = L.length - (k + 1) + 1 by omega, List.replicate_succ, List.set_append_right _ _ (by simp; omega)]
  have : k - (List.take k L).length = 0 := by simp; omega
  rw [this]; simp
theorem fill_step {α : Type} [Inhabited α] {f : α → List Cell} {L : List α} {k : Nat} {c : List Cell} (h : k < L.length) (hx : f (L.getD k default) = c) :
    ((fillTo L k).map f).set k c = (fillTo L (k + 1)).map f := by
  subst hx; rw [← List.map_set, fillTo_set h]
theorem fill_init {α : Type} [Inhabited α] {f : α → List Cell} {L : List α} {c : List Cell} (hx : f default = c) : List.replicate L.length c = (fillTo L 0).map f := by
  subst hx; simp [fillTo_zero]
/-! ### rows: the cells of an element -/
class Row (α : Type) (C : α → List Cell) (F : outParam (α → List Cell)) (n : outParam Nat) : Prop where
  eq : ∀ x, C x = F x
  len : ∀ x, (F x).length = n
def intF (n : Int) : List Cell := [cI n]
def strF (n : ByteArray) : List Cell := [cS n]
instance : Row Int intC intF 1 := ⟨fun _ => rfl, fun _ => rfl⟩
instance : Row ByteArray strC strF 1 := ⟨fun _ => rfl, fun _ => rfl⟩
section
variable {α : Type} {C F : α → List Cell} {n : Nat}
theorem rowGet [Row α C F n] [Inhabited α] {L : List α} {i : Nat} (h : i < L.length) : (L.map C)[i]? = some (F (L.getD i default)) := getC h (Row.eq _)
theorem rowSnoc [Row α C F n] (L : List α) (x : α) : L.map C ++ [F x] = (L ++ [x]).map C := by simp [Row.eq (C := C) (F := F)]
theorem rowOne [Row α C F n] (x : α) : [F x] = [x].map C := by simp [Row.eq (C := C) (F := F)]
theorem fillStep [Row α C F n] [Inhabited α] {L : List α} {k : Nat} (h : k < L.length) : ((fillTo L k).map C).set k (F (L.getD k default)) = (fillTo L (k + 1)).map C := fill_step h (Row.eq _)
theorem fillInit [Row α C F n] [Inhabited α] {L : List α} : List.replicate L.length (F default) = (fillTo L 0).map C := fill_init (Row.eq _)
theorem rowLens [Row α C F n] {L : List α} : ∀ e ∈ L.map C, e.length = n := by
  intro e he
  obtain ⟨x, _, rfl⟩ := List.mem_map.1 he; rw [Row.eq (C := C) (F := F)]; exact Row.len (C := C) x
end
/-! ### texts -/
abbrev tx (s : ByteArray) : List UInt8 := s.data.toList
def mkS (l : List UInt8) : ByteArray := ⟨l.toArray⟩
theorem mk_toArray (l : List UInt8) : ByteArray.mk l.toArray = mkS l := rfl
theorem tx_mkS (l : List UInt8) : (mkS l).data.toList = l := rfl
theorem mkS_inj (a b : List UInt8) : mkS a = mkS b ↔ a = b := by
  constructor
  · intro h; have := congrArg (fun s : ByteArray => s.data.toList) h; simpa [mkS] using this
  · intro h; rw [h]
theorem mkS_tx (s : ByteArray) : mkS s.data.toList = s := rfl
theorem size_mkS (l : List UInt8) : (mkS l).size = l.length := rfl
theorem tx_len (s : ByteArray) : s.data.toList.length = s.size := rfl

/-- texts with something between them -/
def jn (b : List UInt8) : List ByteArray → List UInt8
  | [] => []
  | x :: r => tx x ++ r.flatMap fun y => b ++ tx y
theorem jn_snoc (b : List UInt8) (L : List ByteArray) (y : ByteArray) : jn b (L ++ [y]) = if L = [] then tx y else jn b L ++ (b ++ tx y) := by
  cases L with
  | nil => simp [jn]
  | cons x r => simp [jn]
theorem jn_len (b : List UInt8) : ∀ L : List ByteArray, (jn b L).length ≤ (L.map ByteArray.size).sum + L.length * b.length
  | [] => by simp [jn]
  | x :: r => by
    have : ∀ l : List ByteArray, (l.flatMap fun y => b ++ tx y).length = (l.map ByteArray.size).sum + l.length * b.length := by
      intro l
      induction l with
      | nil => simp
      | cons y l ih => simp only [List.flatMap_cons, List.length_append, ih, List.map_cons, List.sum_cons, List.length_cons, Nat.add_mul, Nat.one_mul]; rw [tx_len]; omega
    simp only [jn, List.length_append, this, List.map_cons, List.sum_cons, List.length_cons, Nat.add_mul, Nat.one_mul]; rw [tx_len]; omega

/-- what is turned in every obligation -/
theorem std : (∀ s : ByteArray, s.data.toList.length = s.size) ∧ (∀ {α β : Type} (f : α → β) (L : List α), (L.map f).length = L.length) ∧ (∀ n : Nat, (n : Int).toNat = n) ∧
    (∀ n : Int, rng .i64 n ↔ -9223372036854775808 ≤ n ∧ n ≤ 9223372036854775807) ∧ (∀ a b : List Ob, ObsEq a b ↔ a = b) ∧ (∀ {α : Type} (a b : List α), (a ++ b).length = a.length + b.length) ∧
    (∀ {α : Type} (n : Nat) (a : α), (List.replicate n a).length = n) ∧ (∀ {α : Type} [Inhabited α] (L : List α) (k : Nat), (fillTo L k).length = L.length) ∧ (∀ (p : Prop) [Decidable p], (decide p = true) = p) ∧
    (∀ (p : Prop) [Decidable p], (decide p = false) = ¬ p) ∧ (∀ {α : Type} (a b : α), (a ≠ b) = ¬ a = b) ∧ (∀ a b : Bool, (AV.sv (lb a) = AV.sv (lb b)) ↔ a = b) ∧ (∀ a b : Int, (AV.sv (li a) = AV.sv (li b)) ↔ a = b) ∧
    (∀ a b : ByteArray, (AV.sv (ls a) = AV.sv (ls b)) ↔ a = b) ∧ (∀ l : List UInt8, ByteArray.mk l.toArray = mkS l) ∧ (∀ l : List UInt8, (mkS l).data.toList = l) ∧ (∀ a b : List UInt8, mkS a = mkS b ↔ a = b) ∧
    (∀ l : List UInt8, (mkS l).size = l.length) :=
  ⟨size_list, fun _ _ => List.length_map _, Int.toNat_natCast, @rng64, obsEq_iff, fun _ _ => List.length_append, fun _ _ => List.length_replicate, fillTo_len, @decide_eq_true_eq, fun p _ => propext (decide_eq_false_iff_not (p := p)), fun a b => rfl, lb_inj, li_inj, ls_inj, mk_toArray, tx_mkS, mkS_inj, size_mkS⟩
end Go.Proofs.Ytamcedjjlokfhaa
