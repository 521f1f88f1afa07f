/- What all the contracts' texts share: the program's setting, small lemmas on lists, numbers and cells. No condition. -/
import Derived.Test.YtjaahbkdpodbbaaRows
import Derived.Test.YtjaahbkdpodbbaaAb24
namespace Go.Proofs.Ytjaahbkdpodbbaa
open Go Go.Proofs.Ytjaahbkdpodbbaa.Ab
set_option linter.unusedVariables false

theorem wide : Try.prog.follows .mixedOrders = true := by kernel_rfl

theorem drop_get {α : Type} [Inhabited α] {L : List α} {k : Nat} (h : k < L.length) : L.drop k = L.getD k default :: L.drop (k + 1) := by
  rw [List.drop_eq_getElem_cons h]; simp [h]
theorem take_get {α : Type} [Inhabited α] {L : List α} {k : Nat} (h : k < L.length) : L.take (k + 1) = L.take k ++ [L.getD k default] := by
  rw [List.take_succ_eq_append_getElem h]; simp [h]
theorem getD_mem' {α : Type} [Inhabited α] {L : List α} {k : Nat} (h : k < L.length) : L.getD k default ∈ L := by simp [h]
theorem size_list (s : ByteArray) : s.data.toList.length = s.size := rfl
theorem rng64 {n : Int} : rng .i64 n ↔ -9223372036854775808 ≤ n ∧ n ≤ 9223372036854775807 := rng_i64
theorem obsEq_iff (a b : List Ob) : ObsEq a b ↔ a = b := Iff.rfl
theorem getC {α : Type} [Inhabited α] {f : α → List Cell} {L : List α} {i : Nat} {x : List Cell} (h : i < L.length) (hx : f (L.getD i default) = x) : (L.map f)[i]? = some x := by
  subst hx; simp [h]
theorem take_eq {α : Type} [Inhabited α] {A B : List α} {k : Nat} (h : k < A.length) (hl : A.length = B.length) : A.take (k + 1) = B.take (k + 1) ↔ A.take k = B.take k ∧ A.getD k default = B.getD k default := by
  rw [take_get h, take_get (by omega : k < B.length)]
  constructor
  · intro e
    have := List.append_inj e (by simp; omega)
    exact ⟨this.1, by simpa using this.2⟩
  · rintro ⟨e1, e2⟩; rw [e1, e2]
theorem take_self {α : Type} {A B : List α} (hl : A.length = B.length) (h : A.take A.length = B.take A.length) : A = B := by
  rw [List.take_length, hl, List.take_length] at h; exact h
theorem bytes_ext (a b : ByteArray) : a.data.toList = b.data.toList ↔ a = b := by
  constructor
  · intro h; cases a; cases b; simp at h; subst h; rfl
  · intro h; rw [h]
theorem append_bytes (a b : ByteArray) : (⟨(a.data.toList ++ b.data.toList).toArray⟩ : ByteArray) = a ++ b := by
  apply (bytes_ext _ _).1; simp
theorem lb_inj (a b : Bool) : AV.sv (lb a) = AV.sv (lb b) ↔ a = b := by simp [lb, vB, cB]
theorem li_inj (a b : Int) : AV.sv (li a) = AV.sv (li b) ↔ a = b := by simp [li, vI, cI]
theorem ls_inj (a b : ByteArray) : AV.sv (ls a) = AV.sv (ls b) ↔ a = b := by simp [ls, vS, cS]
/-- an array that is filled from its beginning -/
def fillTo {α : Type} [Inhabited α] (L : List α) (k : Nat) : List α := L.take k ++ List.replicate (L.length - k) default
theorem fillTo_len {α : Type} [Inhabited α] (L : List α) (k : Nat) : (fillTo L k).length = L.length := by simp [fillTo]; omega
theorem fillTo_zero {α : Type} [Inhabited α] (L : List α) : fillTo L 0 = List.replicate L.length default := by simp [fillTo]
theorem fillTo_all {α : Type} [Inhabited α] (L : List α) {k : Nat} (h : L.length ≤ k) : fillTo L k = L := by simp [fillTo, List.take_of_length_le h, Nat.sub_eq_zero_of_le h]
theorem fillTo_set {α : Type} [Inhabited α] {L : List α} {k : Nat} (h : k < L.length) : (fillTo L k).set k (L.getD k default) = fillTo L (k + 1) := by
  unfold fillTo
  rw [take_get h, show L.length - k = L.length - (k + 1) + 1 by omega, List.replicate_succ, List.set_append_right _ _ (by simp; omega)]
  have : k - (List.take k L).length = 0 := by simp; omega
  rw [this]; simp
theorem fill_step {α : Type} [Inhabited α] {f : α → List Cell} {L : List α} {k : Nat} {c : List Cell} (h : k < L.length) (hx : f (L.getD k default) = c) :
    ((fillTo L k).map f).set k c = (fillTo L (k + 1)).map f := by
  subst hx; rw [← List.map_set, fillTo_set h]
theorem fill_init {α : Type} [Inhabited α] {f : α → List Cell} {L : List α} {c : List Cell} (hx : f default = c) : List.replicate L.length c = (fillTo L 0).map f := by
  subst hx; simp [fillTo_zero]
/-! ### texts -/
abbrev tx (s : ByteArray) : List UInt8 := s.data.toList
def mkS (l : List UInt8) : ByteArray := ⟨l.toArray⟩
theorem mk_toArray (l : List UInt8) : ByteArray.mk l.toArray = mkS l := rfl
theorem tx_mkS (l : List UInt8) : (mkS l).data.toList = l := rfl
theorem mkS_inj (a b : List UInt8) : mkS a = mkS b ↔ a = b := by
  constructor
  · intro h; have := congrArg (fun s : ByteArray => s.data.toList) h; simpa [mkS] using this
  · intro h; rw [h]
theorem mkS_tx (s : ByteArray) : mkS s.data.toList = s := rfl
theorem size_mkS (l : List UInt8) : (mkS l).size = l.length := rfl
theorem tx_len (s : ByteArray) : s.data.toList.length = s.size := rfl

/-- texts with something between them -/
def jn (b : List UInt8) : List ByteArray → List UInt8
  | [] => []
  | x :: r => tx x ++ r.flatMap fun y => b ++ tx y
theorem jn_snoc (b : List UInt8) (L : List ByteArray) (y : ByteArray) : jn b (L ++ [y]) = if L = [] then tx y else jn b L ++ (b ++ tx y) := by
  cases L with
  | nil => simp [jn]
  | cons x r => simp [jn]
theorem jn_len (b : List UInt8) : ∀ L : List ByteArray, (jn b L).length ≤ (L.map ByteArray.size).sum + L.length * b.length
  | [] => by simp [jn]
  | x :: r => by
    have : ∀ l : List ByteArray, (l.flatMap fun y => b ++ tx y).length = (l.map ByteArray.size).sum + l.length * b.length := by
      intro l
      induction l with
      | nil => simp
      | cons y l ih => simp only [List.flatMap_cons, List.length_append, ih, List.map_cons, List.sum_cons, List.length_cons, Nat.add_mul, Nat.one_mul]; rw [tx_len]; omega
    simp only [jn, List.length_append, this, List.map_cons, List.sum_cons, List.length_cons, Nat.add_mul, Nat.one_mul]; rw [tx_len]; omega
end Go.Proofs.Ytjaahbkdpodbbaa
