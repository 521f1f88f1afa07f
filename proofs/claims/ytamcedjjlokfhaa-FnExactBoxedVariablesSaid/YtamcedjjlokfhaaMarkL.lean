/- How the laws mark what they were handed, in plain Lean. No condition. -/
import Derived.Test.YtamcedjjlokfhaaData
namespace Go.Proofs.Ytamcedjjlokfhaa
open Go Go.Proofs.Ytamcedjjlokfhaa.Ab
set_option linter.unusedVariables false

/-- each element is marked behind those ahead of it -/
def seqM {α : Type} (f : α → Int → α) (c : α → Nat) : List α → Int → List α
  | [], _ => []
  | x :: r, n => f x n :: seqM f c r (n + c x)
theorem seqM_len {α : Type} (f : α → Int → α) (c : α → Nat) : ∀ (L : List α) (n : Int), (seqM f c L n).length = L.length
  | [], n => rfl
  | x :: r, n => by simp [seqM, seqM_len f c r]
theorem seqM_append {α : Type} (f : α → Int → α) (c : α → Nat) : ∀ (A B : List α) (n : Int), seqM f c (A ++ B) n = seqM f c A n ++ seqM f c B (n + sumBy c A)
  | [], B, n => by simp [seqM, sumBy]
  | x :: r, B, n => by simp only [List.cons_append, seqM, seqM_append f c r B, sumBy]; congr 3; omega



theorem sumBy_len {α : Type} {c : α → Nat} (h : ∀ x, 1 ≤ c x) : ∀ L : List α, L.length ≤ sumBy c L
  | [] => Nat.zero_le _
  | x :: r => by have := sumBy_len h r; have := h x; simp only [sumBy, List.length_cons]; omega
/-- a list whose first i elements are marked -/
def mkTo {α : Type} (f : α → Int → α) (c : α → Nat) (L : List α) (n : Int) (i : Nat) : List α := seqM f c (L.take i) n ++ L.drop i
theorem mkTo_len {α : Type} (f : α → Int → α) (c : α → Nat) (L : List α) (n : Int) (i : Nat) : (mkTo f c L n i).length = L.length := by simp [mkTo, seqM_len]; omega
theorem mkTo_zero {α : Type} (f : α → Int → α) (c : α → Nat) (L : List α) (n : Int) : mkTo f c L n 0 = L := by simp [mkTo, seqM]
theorem mkTo_all {α : Type} (f : α → Int → α) (c : α → Nat) (L : List α) (n : Int) {i : Nat} (h : L.length ≤ i) : mkTo f c L n i = seqM f c L n := by
  simp [mkTo, List.drop_eq_nil_of_le h, List.take_of_length_le h]
theorem mkTo_get {α : Type} [Inhabited α] (f : α → Int → α) (c : α → Nat) (L : List α) (n : Int) {i : Nat} (h : i < L.length) : (mkTo f c L n i).getD i default = L.getD i default := by
  have : i - (seqM f c (List.take i L) n).length = 0 := by simp [seqM_len]; omega
  unfold mkTo
  rw [drop_get h, List.getD_eq_getElem?_getD, List.getElem?_append_right (by simp [seqM_len]; omega), this]; simp
theorem mkTo_set {α : Type} [Inhabited α] (f : α → Int → α) (c : α → Nat) (L : List α) (n : Int) {i : Nat} (h : i < L.length) :
    (mkTo f c L n i).set i (f (L.getD i default) (n + sumBy c (L.take i))) = mkTo f c L n (i + 1) := by
  have : i - (seqM f c (List.take i L) n).length = 0 := by simp [seqM_len]; omega
  unfold mkTo
  rw [drop_get h, take_get h, List.set_append_right _ _ (by simp [seqM_len]; omega), this, seqM_append]
  simp [seqM]
theorem mkTo_row {α : Type} [Inhabited α] {f : α → Int → α} {c : α → Nat} {L : List α} {n : Int} {C : α → List Cell} {i : Nat} {r : List Cell} (h : i < L.length) (hr : C (L.getD i default) = r) :
    ((mkTo f c L n i).map C)[i]? = some r := by
  rw [← hr, ← mkTo_get f c L n h]; exact getC (by rw [mkTo_len]; exact h) rfl
theorem mkTo_step {α : Type} [Inhabited α] {f : α → Int → α} {c : α → Nat} {L : List α} {n : Int} {C : α → List Cell} {i : Nat} {r : List Cell} (h : i < L.length)
    (hr : C (f (L.getD i default) (n + sumBy c (L.take i))) = r) : ((mkTo f c L n i).map C).set i r = (mkTo f c L n (i + 1)).map C := by
  rw [← hr, ← List.map_set, mkTo_set f c L n h]
theorem seqM_step {α : Type} [Inhabited α] (f : α → Int → α) (c : α → Nat) {L : List α} (n : Int) {i : Nat} (h : i < L.length) :
    seqM f c (L.take (i + 1)) n = L.take (i + 1) ↔ seqM f c (L.take i) n = L.take i ∧ f (L.getD i default) (n + sumBy c (L.take i)) = L.getD i default := by
  rw [take_get h, seqM_append]
  constructor
  · intro e
    have := List.append_inj e (by simp [seqM_len])
    exact ⟨this.1, by simpa [seqM] using this.2⟩
  · rintro ⟨e1, e2⟩; rw [e1]; simp only [seqM]; rw [e2]
theorem seqM_take {α : Type} (f : α → Int → α) (c : α → Nat) {L : List α} {n : Int} (i : Nat) (h : seqM f c L n = L) : seqM f c (L.take i) n = L.take i := by
  have e : seqM f c (L.take i ++ L.drop i) n = L.take i ++ L.drop i := by rw [List.take_append_drop]; exact h
  rw [seqM_append] at e
  exact (List.append_inj e (by simp [seqM_len])).1

theorem seqM_get {α : Type} [Inhabited α] {f : α → Int → α} {c : α → Nat} {L : List α} {n : Int} (h : seqM f c L n = L) {i : Nat} (hi : i < L.length) :
    f (L.getD i default) (n + sumBy c (L.take i)) = L.getD i default := ((seqM_step f c n hi).1 (seqM_take f c (i + 1) h)).2

def mkI (_ : Int) (n : Int) : Int := n
theorem seqM_getD {α : Type} [Inhabited α] (f : α → Int → α) (c : α → Nat) {L : List α} (n : Int) {i : Nat} (h : i < L.length) :
    (seqM f c L n).getD i default = f (L.getD i default) (n + sumBy c (L.take i)) := by
  have e : seqM f c (L.take i ++ L.drop i) n = seqM f c L n := by rw [List.take_append_drop]
  rw [← e, seqM_append, drop_get h]
  have hl : (seqM f c (L.take i) n).length = i := by rw [seqM_len]; simp; omega
  rw [List.getD_eq_getElem?_getD, List.getElem?_append_right (by omega), hl]
  simp [seqM]
def cOne {α : Type} (_ : α) : Nat := 1
theorem cOne_sum {α : Type} : ∀ L : List α, sumBy cOne L = L.length
  | [] => rfl
  | x :: r => by simp only [sumBy, cOne_sum r, List.length_cons, cOne]; omega
theorem seqI_get {L : List Int} {n : Int} (h : seqM mkI cOne L n = L) {i : Nat} (hi : i < L.length) : L.getD i 0 = n + i := by
  have := seqM_get h hi
  simp only [mkI, cOne_sum, List.length_take] at this
  rw [show min i L.length = i by omega] at this
  exact this.symm
theorem cOne_take {α : Type} {L : List α} {i : Nat} (h : i ≤ L.length) : sumBy cOne (L.take i) = i := by rw [cOne_sum]; simp; omega

theorem seqI_getD {L : List Int} {n : Int} {i : Nat} (h : i < L.length) : (seqM mkI cOne L n).getD i 0 = n + i := by
  have := seqM_getD mkI cOne n h
  rw [cOne_take (by omega)] at this; exact this

theorem sumBy_le16 {α : Type} {c w : α → Nat} : ∀ (L : List α) (_ : ∀ y ∈ L, c y ≤ 16 + 16 * w y), sumBy c L ≤ 16 * L.length + 16 * sumBy w L
  | [], _ => by simp [sumBy]
  | x :: r, h => by have := h x (List.mem_cons_self ..); have := sumBy_le16 r (fun y hy => h y (List.mem_cons_of_mem _ hy)); simp only [sumBy, List.length_cons]; omega
/-- marks stay when they are set again -/
class Marks {α : Type} (f : α → Int → α) (c : outParam (α → Nat)) : Prop where
  fix : ∀ x n, f (f x n) n = f x n
  cnt : ∀ x n, c (f x n) = c x
theorem sum_seqM' {α : Type} {f : α → Int → α} {c : α → Nat} : ∀ (L : List α) (n : Int) (_ : ∀ x ∈ L, ∀ n, c (f x n) = c x), sumBy c (seqM f c L n) = sumBy c L
  | [], _, _ => rfl
  | x :: r, n, h => by simp only [seqM, sumBy]; rw [h x (List.mem_cons_self ..), sum_seqM' r _ (fun y hy => h y (List.mem_cons_of_mem _ hy))]
theorem seqM_idem' {α : Type} {f : α → Int → α} {c : α → Nat} : ∀ (L : List α) (n : Int) (_ : ∀ x ∈ L, ∀ n, c (f x n) = c x) (_ : ∀ x ∈ L, ∀ n, f (f x n) n = f x n), seqM f c (seqM f c L n) n = seqM f c L n
  | [], _, _, _ => rfl
  | x :: r, n, h, g => by
    simp only [seqM]; rw [h x (List.mem_cons_self ..), g x (List.mem_cons_self ..), seqM_idem' r _ (fun y hy => h y (List.mem_cons_of_mem _ hy)) (fun y hy => g y (List.mem_cons_of_mem _ hy))]
theorem sum_seqM {α : Type} {f : α → Int → α} {c : α → Nat} [Marks f c] (L : List α) (n : Int) : sumBy c (seqM f c L n) = sumBy c L := sum_seqM' L n fun x _ => Marks.cnt x
theorem seqM_idem {α : Type} {f : α → Int → α} {c : α → Nat} [Marks f c] (L : List α) (n : Int) : seqM f c (seqM f c L n) n = seqM f c L n := seqM_idem' L n (fun x _ => Marks.cnt x) fun x _ => Marks.fix x
instance : Marks mkI cOne := ⟨fun _ _ => rfl, fun _ _ => rfl⟩

/-- the digits of a number -/
def digs (n : Nat) : List UInt8 := if h : n = 0 then [] else digs (n / 10) ++ [UInt8.ofNat (48 + n % 10)]
theorem digs_step {n : Nat} (h : 0 < n) : digs n = digs (n / 10) ++ [UInt8.ofNat (48 + n % 10)] := by
  rw [digs]; simp [show n ≠ 0 by omega]
theorem digs_len (n : Nat) : (digs n).length ≤ n := by
  induction n using Nat.strongRecOn with
  | ind n ih =>
    by_cases h : n = 0
    · subst h; rw [digs]; simp
    · rw [digs_step (by omega)]
      have := ih (n / 10) (by omega)
      simp only [List.length_append, List.length_cons, List.length_nil]; omega
theorem digs_zero : digs 0 = [] := by rw [digs]; simp
theorem digs_int {i : Int} (h : 0 < i) : digs i.toNat = digs (i / 10).toNat ++ [UInt8.ofNat (48 + i % 10).toNat] := by
  rw [digs_step (by omega), show i.toNat / 10 = (i / 10).toNat by omega, show 48 + i.toNat % 10 = (48 + i % 10).toNat by omega]
theorem u8_int {d : Int} (h0 : 0 ≤ d) (h1 : d < 256) : ((UInt8.ofNat d.toNat).toNat : Int) = d := by
  rw [UInt8.toNat_ofNat']; omega
theorem rngu8 {n : Int} : rng .u8 n ↔ 0 ≤ n ∧ n ≤ 255 := by
  unfold rng; simp [IntKind.min, IntKind.max, IntKind.signed, IntKind.bits]
def mText (n : Int) : ByteArray := if n ≤ 0 then mkS [109, 48] else mkS (109 :: digs n.toNat)


def mkT (_ : ByteArray) (n : Int) : ByteArray := mText n
instance : Marks mkT cOne := ⟨fun _ _ => rfl, fun _ _ => rfl⟩
theorem seqT_get {L : List ByteArray} {n : Int} (h : seqM mkT cOne L n = L) {i : Nat} (hi : i < L.length) : L.getD i default = mText (n + i) := by
  have := seqM_get h hi
  rw [cOne_take (by omega)] at this
  exact this.symm
theorem set_row {α : Type} {l : List α} {k : Nat} {r : α} (h : k < l.length) : (l.set k r)[k]? = some r := by simp [h]
theorem mkToRow {α : Type} [Inhabited α] {C F : α → List Cell} {z : Nat} [Row α C F z] {f : α → Int → α} {c : α → Nat} {L : List α} {n : Int} {i : Nat} (h : i < L.length) :
    ((mkTo f c L n i).map C)[i]? = some (F (L.getD i default)) := mkTo_row h (Row.eq _)
theorem stdM : (∀ {α : Type} (f : α → Int → α) (c : α → Nat) (L : List α) (n : Int) (i : Nat), (mkTo f c L n i).length = L.length) ∧ (∀ {α : Type} (f : α → Int → α) (c : α → Nat) (L : List α) (n : Int), mkTo f c L n 0 = L) ∧
    (∀ {α : Type} (L : List α), sumBy cOne L = L.length) ∧ (∀ {α : Type} (f : α → Int → α) (c : α → Nat) (L : List α) (n : Int), (seqM f c L n).length = L.length) ∧
    (∀ {α : Type} (l : List α) (i : Nat) (a : α), (l.set i a).length = l.length) ∧ (∀ {α : Type} (l : List α) (i : Nat) (a b : α), (l.set i a).set i b = l.set i b) ∧ (∀ {α : Type} (l : List α), l.take 0 = []) ∧
    (∀ {α : Type} (f : α → Nat), sumBy f [] = 0) ∧ ((0 : Nat) : Int) = 0 ∧ (∀ n : Int, n + 0 = n) :=
  ⟨mkTo_len, mkTo_zero, cOne_sum, seqM_len, fun _ _ _ => List.length_set, fun _ _ _ _ => by simp, fun _ => List.take_zero, fun _ => rfl, rfl, Int.add_zero⟩

mutual
def cD : Datum → Nat
  | ⟨kind', number', text', items'⟩ => 3 + cDs items'
def cDs : List Datum → Nat
  | [] => 0
  | x :: r => cD x + cDs r
end
theorem cDs_eq : ∀ l, cDs l = sumBy cD l
  | [] => by simp [cDs, sumBy]
  | x :: r => by rw [cDs, cDs_eq r, sumBy]
theorem cD_eq (x : Datum) : cD x = 3 + sumBy cD x.items := by cases x; simp only [cD, cDs_eq]
mutual
def mkD : Datum → Int → Datum
  | ⟨kind', number', text', items'⟩, n => ⟨n, (n + 1), (mText (n + 1 + 1)), (mkDs items' (n + 1 + 1 + 1))⟩
def mkDs : List Datum → Int → List Datum
  | [], _ => []
  | x :: r, n => mkD x n :: mkDs r (n + cD x)
end
theorem mkDs_eq : ∀ l n, mkDs l n = seqM mkD cD l n
  | [], n => by rw [mkDs, seqM]
  | x :: r, n => by rw [mkDs, seqM, mkDs_eq r]
theorem mkD_eq (x : Datum) (n : Int) : mkD x n = ⟨n, (n + 1), (mText (n + 1 + 1)), (seqM mkD cD x.items (n + 1 + 1 + 1))⟩ := by cases x; simp only [mkD, mkDs_eq]
theorem mkD_C (x : Datum) (n : Int) : datumC (mkD x n) = [cI (n), cI (n + 1), cS (mText (n + 1 + 1)), .list ((seqM mkD cD x.items (n + 1 + 1 + 1)).map datumC)] := by rw [datumC_eq, mkD_eq]; rfl
theorem mkD_fix {x : Datum} {n : Int} (h : mkD x n = x) : x.kind = n ∧ x.number = n + 1 ∧ x.text = mText (n + 1 + 1) ∧ seqM mkD cD x.items (n + 1 + 1 + 1) = x.items := by
  have e := h.symm; rw [mkD_eq] at e
  exact ⟨congrArg (fun z => z.kind) e, congrArg (fun z => z.number) e, congrArg (fun z => z.text) e, (congrArg (fun z => z.items) e).symm⟩
theorem mkD_cnt : ∀ (x : Datum) (n : Int), cD (mkD x n) = cD x := Datum.ind (P := fun x => ∀ n, cD (mkD x n) = cD x) fun x ih n => by
  rw [cD_eq, cD_eq x, mkD_eq]; simp only [seqM_len, sum_seqM]; rw [sum_seqM' x.items _ ih]
theorem mkD_idem : ∀ (x : Datum) (n : Int), mkD (mkD x n) n = mkD x n := Datum.ind (P := fun x => ∀ n, mkD (mkD x n) n = mkD x n) fun x ih n => by
  rw [mkD_eq (mkD x n), mkD_eq x n]; simp only [seqM_len, sum_seqM, seqM_idem]; rw [seqM_idem' x.items _ (fun x _ => mkD_cnt x) ih]
instance : Marks mkD cD := ⟨mkD_idem, mkD_cnt⟩
theorem cD_le : ∀ x : Datum, cD x ≤ 16 + 16 * wD x := Datum.ind (P := fun x => cD x ≤ 16 + 16 * wD x) fun x ih => by
  have b0 := sumBy_le16 x.items ih
  simp only [cD_eq, wD_eq, wS]
  omega
theorem cD_len (L : List Datum) : L.length ≤ sumBy cD L := sumBy_len (fun x => by rw [cD_eq]; omega) L

mutual
def cC : Core → Nat
  | ⟨kind', number', params', datum', kids'⟩ => 5 + params'.length + sumBy cD datum'.items + cCs kids'
def cCs : List Core → Nat
  | [] => 0
  | x :: r => cC x + cCs r
end
theorem cCs_eq : ∀ l, cCs l = sumBy cC l
  | [] => by simp [cCs, sumBy]
  | x :: r => by rw [cCs, cCs_eq r, sumBy]
theorem cC_eq (x : Core) : cC x = 5 + x.params.length + sumBy cD x.datum.items + sumBy cC x.kids := by cases x; simp only [cC, cCs_eq]
mutual
def mkC : Core → Int → Core
  | ⟨kind', number', params', datum', kids'⟩, n => ⟨n, (n + 1), (seqM mkI cOne params' (n + 1 + 1)), ⟨(n + 1 + 1 + params'.length), (n + 1 + 1 + params'.length + 1), (mText (n + 1 + 1 + params'.length + 1 + 1)), (seqM mkD cD datum'.items (n + 1 + 1 + params'.length + 1 + 1 + 1))⟩, (mkCs kids' (n + 1 + 1 + params'.length + 1 + 1 + 1 + sumBy cD datum'.items))⟩
def mkCs : List Core → Int → List Core
  | [], _ => []
  | x :: r, n => mkC x n :: mkCs r (n + cC x)
end
theorem mkCs_eq : ∀ l n, mkCs l n = seqM mkC cC l n
  | [], n => by rw [mkCs, seqM]
  | x :: r, n => by rw [mkCs, seqM, mkCs_eq r]
theorem mkC_eq (x : Core) (n : Int) : mkC x n = ⟨n, (n + 1), (seqM mkI cOne x.params (n + 1 + 1)), ⟨(n + 1 + 1 + x.params.length), (n + 1 + 1 + x.params.length + 1), (mText (n + 1 + 1 + x.params.length + 1 + 1)), (seqM mkD cD x.datum.items (n + 1 + 1 + x.params.length + 1 + 1 + 1))⟩, (seqM mkC cC x.kids (n + 1 + 1 + x.params.length + 1 + 1 + 1 + sumBy cD x.datum.items))⟩ := by cases x; simp only [mkC, mkCs_eq]
theorem mkC_C (x : Core) (n : Int) : coreC (mkC x n) = [cI (n), cI (n + 1), .list ((seqM mkI cOne x.params (n + 1 + 1)).map intC), cI (n + 1 + 1 + x.params.length), cI (n + 1 + 1 + x.params.length + 1), cS (mText (n + 1 + 1 + x.params.length + 1 + 1)), .list ((seqM mkD cD x.datum.items (n + 1 + 1 + x.params.length + 1 + 1 + 1)).map datumC), .list ((seqM mkC cC x.kids (n + 1 + 1 + x.params.length + 1 + 1 + 1 + sumBy cD x.datum.items)).map coreC)] := by rw [coreC_eq, mkC_eq]; rfl
theorem mkC_fix {x : Core} {n : Int} (h : mkC x n = x) : x.kind = n ∧ x.number = n + 1 ∧ seqM mkI cOne x.params (n + 1 + 1) = x.params ∧ x.datum.kind = n + 1 + 1 + x.params.length ∧ x.datum.number = n + 1 + 1 + x.params.length + 1 ∧ x.datum.text = mText (n + 1 + 1 + x.params.length + 1 + 1) ∧ seqM mkD cD x.datum.items (n + 1 + 1 + x.params.length + 1 + 1 + 1) = x.datum.items ∧ seqM mkC cC x.kids (n + 1 + 1 + x.params.length + 1 + 1 + 1 + sumBy cD x.datum.items) = x.kids := by
  have e := h.symm; rw [mkC_eq] at e
  exact ⟨congrArg (fun z => z.kind) e, congrArg (fun z => z.number) e, (congrArg (fun z => z.params) e).symm, congrArg (fun z => z.datum.kind) e, congrArg (fun z => z.datum.number) e, congrArg (fun z => z.datum.text) e, (congrArg (fun z => z.datum.items) e).symm, (congrArg (fun z => z.kids) e).symm⟩
theorem mkC_cnt : ∀ (x : Core) (n : Int), cC (mkC x n) = cC x := Core.ind (P := fun x => ∀ n, cC (mkC x n) = cC x) fun x ih n => by
  rw [cC_eq, cC_eq x, mkC_eq]; simp only [seqM_len, sum_seqM]; rw [sum_seqM' x.kids _ ih]
theorem mkC_idem : ∀ (x : Core) (n : Int), mkC (mkC x n) n = mkC x n := Core.ind (P := fun x => ∀ n, mkC (mkC x n) n = mkC x n) fun x ih n => by
  rw [mkC_eq (mkC x n), mkC_eq x n]; simp only [seqM_len, sum_seqM, seqM_idem]; rw [seqM_idem' x.kids _ (fun x _ => mkC_cnt x) ih]
instance : Marks mkC cC := ⟨mkC_idem, mkC_cnt⟩
theorem cC_le : ∀ x : Core, cC x ≤ 16 + 16 * wC x := Core.ind (P := fun x => cC x ≤ 16 + 16 * wC x) fun x ih => by
  have b0 := sumBy_le16 x.datum.items (fun y _ => cD_le y)
  have b1 := sumBy_le16 x.kids ih
  simp only [cC_eq, wC_eq, wS, wD_eq]
  omega
theorem cC_len (L : List Core) : L.length ≤ sumBy cC L := sumBy_len (fun x => by rw [cC_eq]; omega) L

mutual
def cY : Syntax → Nat
  | ⟨kind', number', text', scopes', items'⟩ => 3 + scopes'.length + cYs items'
def cYs : List Syntax → Nat
  | [] => 0
  | x :: r => cY x + cYs r
end
theorem cYs_eq : ∀ l, cYs l = sumBy cY l
  | [] => by simp [cYs, sumBy]
  | x :: r => by rw [cYs, cYs_eq r, sumBy]
theorem cY_eq (x : Syntax) : cY x = 3 + x.scopes.length + sumBy cY x.items := by cases x; simp only [cY, cYs_eq]
mutual
def mkY : Syntax → Int → Syntax
  | ⟨kind', number', text', scopes', items'⟩, n => ⟨n, (n + 1), (mText (n + 1 + 1)), (seqM mkI cOne scopes' (n + 1 + 1 + 1)), (mkYs items' (n + 1 + 1 + 1 + scopes'.length))⟩
def mkYs : List Syntax → Int → List Syntax
  | [], _ => []
  | x :: r, n => mkY x n :: mkYs r (n + cY x)
end
theorem mkYs_eq : ∀ l n, mkYs l n = seqM mkY cY l n
  | [], n => by rw [mkYs, seqM]
  | x :: r, n => by rw [mkYs, seqM, mkYs_eq r]
theorem mkY_eq (x : Syntax) (n : Int) : mkY x n = ⟨n, (n + 1), (mText (n + 1 + 1)), (seqM mkI cOne x.scopes (n + 1 + 1 + 1)), (seqM mkY cY x.items (n + 1 + 1 + 1 + x.scopes.length))⟩ := by cases x; simp only [mkY, mkYs_eq]
theorem mkY_C (x : Syntax) (n : Int) : syntaxC (mkY x n) = [cI (n), cI (n + 1), cS (mText (n + 1 + 1)), .list ((seqM mkI cOne x.scopes (n + 1 + 1 + 1)).map intC), .list ((seqM mkY cY x.items (n + 1 + 1 + 1 + x.scopes.length)).map syntaxC)] := by rw [syntaxC_eq, mkY_eq]; rfl
theorem mkY_fix {x : Syntax} {n : Int} (h : mkY x n = x) : x.kind = n ∧ x.number = n + 1 ∧ x.text = mText (n + 1 + 1) ∧ seqM mkI cOne x.scopes (n + 1 + 1 + 1) = x.scopes ∧ seqM mkY cY x.items (n + 1 + 1 + 1 + x.scopes.length) = x.items := by
  have e := h.symm; rw [mkY_eq] at e
  exact ⟨congrArg (fun z => z.kind) e, congrArg (fun z => z.number) e, congrArg (fun z => z.text) e, (congrArg (fun z => z.scopes) e).symm, (congrArg (fun z => z.items) e).symm⟩
theorem mkY_cnt : ∀ (x : Syntax) (n : Int), cY (mkY x n) = cY x := Syntax.ind (P := fun x => ∀ n, cY (mkY x n) = cY x) fun x ih n => by
  rw [cY_eq, cY_eq x, mkY_eq]; simp only [seqM_len, sum_seqM]; rw [sum_seqM' x.items _ ih]
theorem mkY_idem : ∀ (x : Syntax) (n : Int), mkY (mkY x n) n = mkY x n := Syntax.ind (P := fun x => ∀ n, mkY (mkY x n) n = mkY x n) fun x ih n => by
  rw [mkY_eq (mkY x n), mkY_eq x n]; simp only [seqM_len, sum_seqM, seqM_idem]; rw [seqM_idem' x.items _ (fun x _ => mkY_cnt x) ih]
instance : Marks mkY cY := ⟨mkY_idem, mkY_cnt⟩
theorem cY_le : ∀ x : Syntax, cY x ≤ 16 + 16 * wY x := Syntax.ind (P := fun x => cY x ≤ 16 + 16 * wY x) fun x ih => by
  have b0 := sumBy_le16 x.items ih
  simp only [cY_eq, wY_eq, wS]
  omega
theorem cY_len (L : List Syntax) : L.length ≤ sumBy cY L := sumBy_len (fun x => by rw [cY_eq]; omega) L

def cB (x : Binding) : Nat := 3 + x.scopes.length
theorem cB_eq (x : Binding) : cB x = 3 + x.scopes.length := rfl
def mkB (x : Binding) (n : Int) : Binding := ⟨(mText (n)), (seqM mkI cOne x.scopes (n + 1)), (n + 1 + x.scopes.length), (n + 1 + x.scopes.length + 1)⟩
theorem mkB_eq (x : Binding) (n : Int) : mkB x n = ⟨(mText (n)), (seqM mkI cOne x.scopes (n + 1)), (n + 1 + x.scopes.length), (n + 1 + x.scopes.length + 1)⟩ := rfl
theorem mkB_C (x : Binding) (n : Int) : bindingC (mkB x n) = [cS (mText (n)), .list ((seqM mkI cOne x.scopes (n + 1)).map intC), cI (n + 1 + x.scopes.length), cI (n + 1 + x.scopes.length + 1)] := by rw [bindingC_eq, mkB_eq]; rfl
theorem mkB_fix {x : Binding} {n : Int} (h : mkB x n = x) : x.text = mText (n) ∧ seqM mkI cOne x.scopes (n + 1) = x.scopes ∧ x.kind = n + 1 + x.scopes.length ∧ x.number = n + 1 + x.scopes.length + 1 := by
  have e := h.symm; rw [mkB_eq] at e
  exact ⟨congrArg (fun z => z.text) e, (congrArg (fun z => z.scopes) e).symm, congrArg (fun z => z.kind) e, congrArg (fun z => z.number) e⟩
instance : Marks mkB cB := ⟨fun x n => by simp only [mkB_eq, seqM_len, sum_seqM, seqM_idem], fun x n => by simp only [cB_eq, mkB_eq, seqM_len, sum_seqM]⟩
theorem cB_le (x : Binding) : cB x ≤ 16 + 16 * wB x := by
  simp only [cB_eq, wB_eq, wS]
  omega
theorem cB_len (L : List Binding) : L.length ≤ sumBy cB L := sumBy_len (fun x => by rw [cB_eq]; omega) L

def cR (x : Rules) : Nat := 0 + sumBy cY x.literals + sumBy cY x.patterns + sumBy cY x.templates
theorem cR_eq (x : Rules) : cR x = 0 + sumBy cY x.literals + sumBy cY x.patterns + sumBy cY x.templates := rfl
def mkR (x : Rules) (n : Int) : Rules := ⟨(seqM mkY cY x.literals (n)), (seqM mkY cY x.patterns (n + sumBy cY x.literals)), (seqM mkY cY x.templates (n + sumBy cY x.literals + sumBy cY x.patterns))⟩
theorem mkR_eq (x : Rules) (n : Int) : mkR x n = ⟨(seqM mkY cY x.literals (n)), (seqM mkY cY x.patterns (n + sumBy cY x.literals)), (seqM mkY cY x.templates (n + sumBy cY x.literals + sumBy cY x.patterns))⟩ := rfl
theorem mkR_C (x : Rules) (n : Int) : rulesC (mkR x n) = [.list ((seqM mkY cY x.literals (n)).map syntaxC), .list ((seqM mkY cY x.patterns (n + sumBy cY x.literals)).map syntaxC), .list ((seqM mkY cY x.templates (n + sumBy cY x.literals + sumBy cY x.patterns)).map syntaxC)] := by rw [rulesC_eq, mkR_eq]; rfl
theorem mkR_fix {x : Rules} {n : Int} (h : mkR x n = x) : seqM mkY cY x.literals (n) = x.literals ∧ seqM mkY cY x.patterns (n + sumBy cY x.literals) = x.patterns ∧ seqM mkY cY x.templates (n + sumBy cY x.literals + sumBy cY x.patterns) = x.templates := by
  have e := h.symm; rw [mkR_eq] at e
  exact ⟨(congrArg (fun z => z.literals) e).symm, (congrArg (fun z => z.patterns) e).symm, (congrArg (fun z => z.templates) e).symm⟩
instance : Marks mkR cR := ⟨fun x n => by simp only [mkR_eq, seqM_len, sum_seqM, seqM_idem], fun x n => by simp only [cR_eq, mkR_eq, seqM_len, sum_seqM]⟩
theorem cR_le (x : Rules) : cR x ≤ 16 + 16 * wR x := by
  have b0 := sumBy_le16 x.literals (fun y _ => cY_le y)
  have b1 := sumBy_le16 x.patterns (fun y _ => cY_le y)
  have b2 := sumBy_le16 x.templates (fun y _ => cY_le y)
  simp only [cR_eq, wR_eq, wS]
  omega

mutual
def cP : Capture → Nat
  | ⟨name', depth', form', each'⟩ => 7 + name'.scopes.length + sumBy cY name'.items + form'.scopes.length + sumBy cY form'.items + cPs each'
def cPs : List Capture → Nat
  | [] => 0
  | x :: r => cP x + cPs r
end
theorem cPs_eq : ∀ l, cPs l = sumBy cP l
  | [] => by simp [cPs, sumBy]
  | x :: r => by rw [cPs, cPs_eq r, sumBy]
theorem cP_eq (x : Capture) : cP x = 7 + x.name.scopes.length + sumBy cY x.name.items + x.form.scopes.length + sumBy cY x.form.items + sumBy cP x.each := by cases x; simp only [cP, cPs_eq]
mutual
def mkP : Capture → Int → Capture
  | ⟨name', depth', form', each'⟩, n => ⟨⟨n, (n + 1), (mText (n + 1 + 1)), (seqM mkI cOne name'.scopes (n + 1 + 1 + 1)), (seqM mkY cY name'.items (n + 1 + 1 + 1 + name'.scopes.length))⟩, (n + 1 + 1 + 1 + name'.scopes.length + sumBy cY name'.items), ⟨(n + 1 + 1 + 1 + name'.scopes.length + sumBy cY name'.items + 1), (n + 1 + 1 + 1 + name'.scopes.length + sumBy cY name'.items + 1 + 1), (mText (n + 1 + 1 + 1 + name'.scopes.length + sumBy cY name'.items + 1 + 1 + 1)), (seqM mkI cOne form'.scopes (n + 1 + 1 + 1 + name'.scopes.length + sumBy cY name'.items + 1 + 1 + 1 + 1)), (seqM mkY cY form'.items (n + 1 + 1 + 1 + name'.scopes.length + sumBy cY name'.items + 1 + 1 + 1 + 1 + form'.scopes.length))⟩, (mkPs each' (n + 1 + 1 + 1 + name'.scopes.length + sumBy cY name'.items + 1 + 1 + 1 + 1 + form'.scopes.length + sumBy cY form'.items))⟩
def mkPs : List Capture → Int → List Capture
  | [], _ => []
  | x :: r, n => mkP x n :: mkPs r (n + cP x)
end
theorem mkPs_eq : ∀ l n, mkPs l n = seqM mkP cP l n
  | [], n => by rw [mkPs, seqM]
  | x :: r, n => by rw [mkPs, seqM, mkPs_eq r]
theorem mkP_eq (x : Capture) (n : Int) : mkP x n = ⟨⟨n, (n + 1), (mText (n + 1 + 1)), (seqM mkI cOne x.name.scopes (n + 1 + 1 + 1)), (seqM mkY cY x.name.items (n + 1 + 1 + 1 + x.name.scopes.length))⟩, (n + 1 + 1 + 1 + x.name.scopes.length + sumBy cY x.name.items), ⟨(n + 1 + 1 + 1 + x.name.scopes.length + sumBy cY x.name.items + 1), (n + 1 + 1 + 1 + x.name.scopes.length + sumBy cY x.name.items + 1 + 1), (mText (n + 1 + 1 + 1 + x.name.scopes.length + sumBy cY x.name.items + 1 + 1 + 1)), (seqM mkI cOne x.form.scopes (n + 1 + 1 + 1 + x.name.scopes.length + sumBy cY x.name.items + 1 + 1 + 1 + 1)), (seqM mkY cY x.form.items (n + 1 + 1 + 1 + x.name.scopes.length + sumBy cY x.name.items + 1 + 1 + 1 + 1 + x.form.scopes.length))⟩, (seqM mkP cP x.each (n + 1 + 1 + 1 + x.name.scopes.length + sumBy cY x.name.items + 1 + 1 + 1 + 1 + x.form.scopes.length + sumBy cY x.form.items))⟩ := by cases x; simp only [mkP, mkPs_eq]
theorem mkP_C (x : Capture) (n : Int) : captureC (mkP x n) = [cI (n), cI (n + 1), cS (mText (n + 1 + 1)), .list ((seqM mkI cOne x.name.scopes (n + 1 + 1 + 1)).map intC), .list ((seqM mkY cY x.name.items (n + 1 + 1 + 1 + x.name.scopes.length)).map syntaxC), cI (n + 1 + 1 + 1 + x.name.scopes.length + sumBy cY x.name.items), cI (n + 1 + 1 + 1 + x.name.scopes.length + sumBy cY x.name.items + 1), cI (n + 1 + 1 + 1 + x.name.scopes.length + sumBy cY x.name.items + 1 + 1), cS (mText (n + 1 + 1 + 1 + x.name.scopes.length + sumBy cY x.name.items + 1 + 1 + 1)), .list ((seqM mkI cOne x.form.scopes (n + 1 + 1 + 1 + x.name.scopes.length + sumBy cY x.name.items + 1 + 1 + 1 + 1)).map intC), .list ((seqM mkY cY x.form.items (n + 1 + 1 + 1 + x.name.scopes.length + sumBy cY x.name.items + 1 + 1 + 1 + 1 + x.form.scopes.length)).map syntaxC), .list ((seqM mkP cP x.each (n + 1 + 1 + 1 + x.name.scopes.length + sumBy cY x.name.items + 1 + 1 + 1 + 1 + x.form.scopes.length + sumBy cY x.form.items)).map captureC)] := by rw [captureC_eq, mkP_eq]; rfl
theorem mkP_fix {x : Capture} {n : Int} (h : mkP x n = x) : x.name.kind = n ∧ x.name.number = n + 1 ∧ x.name.text = mText (n + 1 + 1) ∧ seqM mkI cOne x.name.scopes (n + 1 + 1 + 1) = x.name.scopes ∧ seqM mkY cY x.name.items (n + 1 + 1 + 1 + x.name.scopes.length) = x.name.items ∧ x.depth = n + 1 + 1 + 1 + x.name.scopes.length + sumBy cY x.name.items ∧ x.form.kind = n + 1 + 1 + 1 + x.name.scopes.length + sumBy cY x.name.items + 1 ∧ x.form.number = n + 1 + 1 + 1 + x.name.scopes.length + sumBy cY x.name.items + 1 + 1 ∧ x.form.text = mText (n + 1 + 1 + 1 + x.name.scopes.length + sumBy cY x.name.items + 1 + 1 + 1) ∧ seqM mkI cOne x.form.scopes (n + 1 + 1 + 1 + x.name.scopes.length + sumBy cY x.name.items + 1 + 1 + 1 + 1) = x.form.scopes ∧ seqM mkY cY x.form.items (n + 1 + 1 + 1 + x.name.scopes.length + sumBy cY x.name.items + 1 + 1 + 1 + 1 + x.form.scopes.length) = x.form.items ∧ seqM mkP cP x.each (n + 1 + 1 + 1 + x.name.scopes.length + sumBy cY x.name.items + 1 + 1 + 1 + 1 + x.form.scopes.length + sumBy cY x.form.items) = x.each := by
  have e := h.symm; rw [mkP_eq] at e
  exact ⟨congrArg (fun z => z.name.kind) e, congrArg (fun z => z.name.number) e, congrArg (fun z => z.name.text) e, (congrArg (fun z => z.name.scopes) e).symm, (congrArg (fun z => z.name.items) e).symm, congrArg (fun z => z.depth) e, congrArg (fun z => z.form.kind) e, congrArg (fun z => z.form.number) e, congrArg (fun z => z.form.text) e, (congrArg (fun z => z.form.scopes) e).symm, (congrArg (fun z => z.form.items) e).symm, (congrArg (fun z => z.each) e).symm⟩
theorem mkP_cnt : ∀ (x : Capture) (n : Int), cP (mkP x n) = cP x := Capture.ind (P := fun x => ∀ n, cP (mkP x n) = cP x) fun x ih n => by
  rw [cP_eq, cP_eq x, mkP_eq]; simp only [seqM_len, sum_seqM]; rw [sum_seqM' x.each _ ih]
theorem mkP_idem : ∀ (x : Capture) (n : Int), mkP (mkP x n) n = mkP x n := Capture.ind (P := fun x => ∀ n, mkP (mkP x n) n = mkP x n) fun x ih n => by
  rw [mkP_eq (mkP x n), mkP_eq x n]; simp only [seqM_len, sum_seqM, seqM_idem]; rw [seqM_idem' x.each _ (fun x _ => mkP_cnt x) ih]
instance : Marks mkP cP := ⟨mkP_idem, mkP_cnt⟩
theorem cP_le : ∀ x : Capture, cP x ≤ 16 + 16 * wP x := Capture.ind (P := fun x => cP x ≤ 16 + 16 * wP x) fun x ih => by
  have b0 := sumBy_le16 x.name.items (fun y _ => cY_le y)
  have b1 := sumBy_le16 x.form.items (fun y _ => cY_le y)
  have b2 := sumBy_le16 x.each ih
  simp only [cP_eq, wP_eq, wS, wY_eq]
  omega
theorem cP_len (L : List Capture) : L.length ≤ sumBy cP L := sumBy_len (fun x => by rw [cP_eq]; omega) L

def cX (x : Expander) : Nat := 3 + sumBy cB x.bindings + sumBy cR x.macros
theorem cX_eq (x : Expander) : cX x = 3 + sumBy cB x.bindings + sumBy cR x.macros := rfl
def mkX (x : Expander) (n : Int) : Expander := ⟨(seqM mkB cB x.bindings (n)), (seqM mkR cR x.macros (n + sumBy cB x.bindings)), (n + sumBy cB x.bindings + sumBy cR x.macros), (n + sumBy cB x.bindings + sumBy cR x.macros + 1), (n + sumBy cB x.bindings + sumBy cR x.macros + 1 + 1)⟩
theorem mkX_eq (x : Expander) (n : Int) : mkX x n = ⟨(seqM mkB cB x.bindings (n)), (seqM mkR cR x.macros (n + sumBy cB x.bindings)), (n + sumBy cB x.bindings + sumBy cR x.macros), (n + sumBy cB x.bindings + sumBy cR x.macros + 1), (n + sumBy cB x.bindings + sumBy cR x.macros + 1 + 1)⟩ := rfl
theorem mkX_C (x : Expander) (n : Int) : expanderC (mkX x n) = [.list ((seqM mkB cB x.bindings (n)).map bindingC), .list ((seqM mkR cR x.macros (n + sumBy cB x.bindings)).map rulesC), cI (n + sumBy cB x.bindings + sumBy cR x.macros), cI (n + sumBy cB x.bindings + sumBy cR x.macros + 1), cI (n + sumBy cB x.bindings + sumBy cR x.macros + 1 + 1)] := by rw [expanderC_eq, mkX_eq]; rfl
theorem mkX_fix {x : Expander} {n : Int} (h : mkX x n = x) : seqM mkB cB x.bindings (n) = x.bindings ∧ seqM mkR cR x.macros (n + sumBy cB x.bindings) = x.macros ∧ x.scope = n + sumBy cB x.bindings + sumBy cR x.macros ∧ x.vari = n + sumBy cB x.bindings + sumBy cR x.macros + 1 ∧ x.steps = n + sumBy cB x.bindings + sumBy cR x.macros + 1 + 1 := by
  have e := h.symm; rw [mkX_eq] at e
  exact ⟨(congrArg (fun z => z.bindings) e).symm, (congrArg (fun z => z.macros) e).symm, congrArg (fun z => z.scope) e, congrArg (fun z => z.vari) e, congrArg (fun z => z.steps) e⟩
instance : Marks mkX cX := ⟨fun x n => by simp only [mkX_eq, seqM_len, sum_seqM, seqM_idem], fun x n => by simp only [cX_eq, mkX_eq, seqM_len, sum_seqM]⟩
theorem cX_le (x : Expander) : cX x ≤ 16 + 16 * wX x := by
  have b0 := sumBy_le16 x.bindings (fun y _ => cB_le y)
  have b1 := sumBy_le16 x.macros (fun y _ => cR_le y)
  simp only [cX_eq, wX_eq, wS]
  omega
theorem cX_len (L : List Expander) : L.length ≤ sumBy cX L := sumBy_len (fun x => by rw [cX_eq]; omega) L

def cM (x : Module) : Nat := 1 + x.imports.length + x.exports.length + sumBy cD x.body
theorem cM_eq (x : Module) : cM x = 1 + x.imports.length + x.exports.length + sumBy cD x.body := rfl
def mkM (x : Module) (n : Int) : Module := ⟨(mText (n)), (seqM mkT cOne x.imports (n + 1)), (seqM mkT cOne x.exports (n + 1 + x.imports.length)), (seqM mkD cD x.body (n + 1 + x.imports.length + x.exports.length))⟩
theorem mkM_eq (x : Module) (n : Int) : mkM x n = ⟨(mText (n)), (seqM mkT cOne x.imports (n + 1)), (seqM mkT cOne x.exports (n + 1 + x.imports.length)), (seqM mkD cD x.body (n + 1 + x.imports.length + x.exports.length))⟩ := rfl
theorem mkM_C (x : Module) (n : Int) : moduleC (mkM x n) = [cS (mText (n)), .list ((seqM mkT cOne x.imports (n + 1)).map strC), .list ((seqM mkT cOne x.exports (n + 1 + x.imports.length)).map strC), .list ((seqM mkD cD x.body (n + 1 + x.imports.length + x.exports.length)).map datumC)] := by rw [moduleC_eq, mkM_eq]; rfl
theorem mkM_fix {x : Module} {n : Int} (h : mkM x n = x) : x.name = mText (n) ∧ seqM mkT cOne x.imports (n + 1) = x.imports ∧ seqM mkT cOne x.exports (n + 1 + x.imports.length) = x.exports ∧ seqM mkD cD x.body (n + 1 + x.imports.length + x.exports.length) = x.body := by
  have e := h.symm; rw [mkM_eq] at e
  exact ⟨congrArg (fun z => z.name) e, (congrArg (fun z => z.imports) e).symm, (congrArg (fun z => z.exports) e).symm, (congrArg (fun z => z.body) e).symm⟩
instance : Marks mkM cM := ⟨fun x n => by simp only [mkM_eq, seqM_len, sum_seqM, seqM_idem], fun x n => by simp only [cM_eq, mkM_eq, seqM_len, sum_seqM]⟩
theorem cM_le (x : Module) : cM x ≤ 16 + 16 * wM x := by
  have b0 := sumBy_le16 x.body (fun y _ => cD_le y)
  simp only [cM_eq, wM_eq, wS]
  omega
theorem cM_len (L : List Module) : L.length ≤ sumBy cM L := sumBy_len (fun x => by rw [cM_eq]; omega) L

def cE (x : Export) : Nat := 4
theorem cE_eq (x : Export) : cE x = 4 := rfl
def mkE (x : Export) (n : Int) : Export := ⟨(mText (n)), (mText (n + 1)), (n + 1 + 1), (n + 1 + 1 + 1)⟩
theorem mkE_eq (x : Export) (n : Int) : mkE x n = ⟨(mText (n)), (mText (n + 1)), (n + 1 + 1), (n + 1 + 1 + 1)⟩ := rfl
theorem mkE_C (x : Export) (n : Int) : exportC (mkE x n) = [cS (mText (n)), cS (mText (n + 1)), cI (n + 1 + 1), cI (n + 1 + 1 + 1)] := by rw [exportC_eq, mkE_eq]; rfl
theorem mkE_fix {x : Export} {n : Int} (h : mkE x n = x) : x.modul = mText (n) ∧ x.text = mText (n + 1) ∧ x.kind = n + 1 + 1 ∧ x.number = n + 1 + 1 + 1 := by
  have e := h.symm; rw [mkE_eq] at e
  exact ⟨congrArg (fun z => z.modul) e, congrArg (fun z => z.text) e, congrArg (fun z => z.kind) e, congrArg (fun z => z.number) e⟩
instance : Marks mkE cE := ⟨fun x n => by simp only [mkE_eq, seqM_len, sum_seqM, seqM_idem], fun x n => by simp only [cE_eq, mkE_eq, seqM_len, sum_seqM]⟩
theorem cE_le (x : Export) : cE x ≤ 16 + 16 * wE x := by
  simp only [cE_eq, wE_eq, wS]
  omega
theorem cE_len (L : List Export) : L.length ≤ sumBy cE L := sumBy_len (fun x => by rw [cE_eq]; omega) L

def cU (x : Unit) : Nat := 6 + x.globals.length + x.body.params.length + sumBy cD x.body.datum.items + sumBy cC x.body.kids
theorem cU_eq (x : Unit) : cU x = 6 + x.globals.length + x.body.params.length + sumBy cD x.body.datum.items + sumBy cC x.body.kids := rfl
def mkU (x : Unit) (n : Int) : Unit := ⟨(mText (n)), (seqM mkI cOne x.globals (n + 1)), ⟨(n + 1 + x.globals.length), (n + 1 + x.globals.length + 1), (seqM mkI cOne x.body.params (n + 1 + x.globals.length + 1 + 1)), ⟨(n + 1 + x.globals.length + 1 + 1 + x.body.params.length), (n + 1 + x.globals.length + 1 + 1 + x.body.params.length + 1), (mText (n + 1 + x.globals.length + 1 + 1 + x.body.params.length + 1 + 1)), (seqM mkD cD x.body.datum.items (n + 1 + x.globals.length + 1 + 1 + x.body.params.length + 1 + 1 + 1))⟩, (seqM mkC cC x.body.kids (n + 1 + x.globals.length + 1 + 1 + x.body.params.length + 1 + 1 + 1 + sumBy cD x.body.datum.items))⟩⟩
theorem mkU_eq (x : Unit) (n : Int) : mkU x n = ⟨(mText (n)), (seqM mkI cOne x.globals (n + 1)), ⟨(n + 1 + x.globals.length), (n + 1 + x.globals.length + 1), (seqM mkI cOne x.body.params (n + 1 + x.globals.length + 1 + 1)), ⟨(n + 1 + x.globals.length + 1 + 1 + x.body.params.length), (n + 1 + x.globals.length + 1 + 1 + x.body.params.length + 1), (mText (n + 1 + x.globals.length + 1 + 1 + x.body.params.length + 1 + 1)), (seqM mkD cD x.body.datum.items (n + 1 + x.globals.length + 1 + 1 + x.body.params.length + 1 + 1 + 1))⟩, (seqM mkC cC x.body.kids (n + 1 + x.globals.length + 1 + 1 + x.body.params.length + 1 + 1 + 1 + sumBy cD x.body.datum.items))⟩⟩ := rfl
theorem mkU_C (x : Unit) (n : Int) : unitC (mkU x n) = [cS (mText (n)), .list ((seqM mkI cOne x.globals (n + 1)).map intC), cI (n + 1 + x.globals.length), cI (n + 1 + x.globals.length + 1), .list ((seqM mkI cOne x.body.params (n + 1 + x.globals.length + 1 + 1)).map intC), cI (n + 1 + x.globals.length + 1 + 1 + x.body.params.length), cI (n + 1 + x.globals.length + 1 + 1 + x.body.params.length + 1), cS (mText (n + 1 + x.globals.length + 1 + 1 + x.body.params.length + 1 + 1)), .list ((seqM mkD cD x.body.datum.items (n + 1 + x.globals.length + 1 + 1 + x.body.params.length + 1 + 1 + 1)).map datumC), .list ((seqM mkC cC x.body.kids (n + 1 + x.globals.length + 1 + 1 + x.body.params.length + 1 + 1 + 1 + sumBy cD x.body.datum.items)).map coreC)] := by rw [unitC_eq, mkU_eq]; rfl
theorem mkU_fix {x : Unit} {n : Int} (h : mkU x n = x) : x.name = mText (n) ∧ seqM mkI cOne x.globals (n + 1) = x.globals ∧ x.body.kind = n + 1 + x.globals.length ∧ x.body.number = n + 1 + x.globals.length + 1 ∧ seqM mkI cOne x.body.params (n + 1 + x.globals.length + 1 + 1) = x.body.params ∧ x.body.datum.kind = n + 1 + x.globals.length + 1 + 1 + x.body.params.length ∧ x.body.datum.number = n + 1 + x.globals.length + 1 + 1 + x.body.params.length + 1 ∧ x.body.datum.text = mText (n + 1 + x.globals.length + 1 + 1 + x.body.params.length + 1 + 1) ∧ seqM mkD cD x.body.datum.items (n + 1 + x.globals.length + 1 + 1 + x.body.params.length + 1 + 1 + 1) = x.body.datum.items ∧ seqM mkC cC x.body.kids (n + 1 + x.globals.length + 1 + 1 + x.body.params.length + 1 + 1 + 1 + sumBy cD x.body.datum.items) = x.body.kids := by
  have e := h.symm; rw [mkU_eq] at e
  exact ⟨congrArg (fun z => z.name) e, (congrArg (fun z => z.globals) e).symm, congrArg (fun z => z.body.kind) e, congrArg (fun z => z.body.number) e, (congrArg (fun z => z.body.params) e).symm, congrArg (fun z => z.body.datum.kind) e, congrArg (fun z => z.body.datum.number) e, congrArg (fun z => z.body.datum.text) e, (congrArg (fun z => z.body.datum.items) e).symm, (congrArg (fun z => z.body.kids) e).symm⟩
instance : Marks mkU cU := ⟨fun x n => by simp only [mkU_eq, seqM_len, sum_seqM, seqM_idem], fun x n => by simp only [cU_eq, mkU_eq, seqM_len, sum_seqM]⟩
theorem cU_le (x : Unit) : cU x ≤ 16 + 16 * wU x := by
  have b0 := sumBy_le16 x.body.datum.items (fun y _ => cD_le y)
  have b1 := sumBy_le16 x.body.kids (fun y _ => cC_le y)
  simp only [cU_eq, wU_eq, wS, wC_eq, wD_eq]
  omega
theorem cU_len (L : List Unit) : L.length ≤ sumBy cU L := sumBy_len (fun x => by rw [cU_eq]; omega) L

def cW (x : World) : Nat := 3 + sumBy cB x.expander.bindings + sumBy cR x.expander.macros + sumBy cU x.units + sumBy cE x.exports
theorem cW_eq (x : World) : cW x = 3 + sumBy cB x.expander.bindings + sumBy cR x.expander.macros + sumBy cU x.units + sumBy cE x.exports := rfl
def mkW (x : World) (n : Int) : World := ⟨⟨(seqM mkB cB x.expander.bindings (n)), (seqM mkR cR x.expander.macros (n + sumBy cB x.expander.bindings)), (n + sumBy cB x.expander.bindings + sumBy cR x.expander.macros), (n + sumBy cB x.expander.bindings + sumBy cR x.expander.macros + 1), (n + sumBy cB x.expander.bindings + sumBy cR x.expander.macros + 1 + 1)⟩, (seqM mkU cU x.units (n + sumBy cB x.expander.bindings + sumBy cR x.expander.macros + 1 + 1 + 1)), (seqM mkE cE x.exports (n + sumBy cB x.expander.bindings + sumBy cR x.expander.macros + 1 + 1 + 1 + sumBy cU x.units))⟩
theorem mkW_eq (x : World) (n : Int) : mkW x n = ⟨⟨(seqM mkB cB x.expander.bindings (n)), (seqM mkR cR x.expander.macros (n + sumBy cB x.expander.bindings)), (n + sumBy cB x.expander.bindings + sumBy cR x.expander.macros), (n + sumBy cB x.expander.bindings + sumBy cR x.expander.macros + 1), (n + sumBy cB x.expander.bindings + sumBy cR x.expander.macros + 1 + 1)⟩, (seqM mkU cU x.units (n + sumBy cB x.expander.bindings + sumBy cR x.expander.macros + 1 + 1 + 1)), (seqM mkE cE x.exports (n + sumBy cB x.expander.bindings + sumBy cR x.expander.macros + 1 + 1 + 1 + sumBy cU x.units))⟩ := rfl
theorem mkW_C (x : World) (n : Int) : worldC (mkW x n) = [.list ((seqM mkB cB x.expander.bindings (n)).map bindingC), .list ((seqM mkR cR x.expander.macros (n + sumBy cB x.expander.bindings)).map rulesC), cI (n + sumBy cB x.expander.bindings + sumBy cR x.expander.macros), cI (n + sumBy cB x.expander.bindings + sumBy cR x.expander.macros + 1), cI (n + sumBy cB x.expander.bindings + sumBy cR x.expander.macros + 1 + 1), .list ((seqM mkU cU x.units (n + sumBy cB x.expander.bindings + sumBy cR x.expander.macros + 1 + 1 + 1)).map unitC), .list ((seqM mkE cE x.exports (n + sumBy cB x.expander.bindings + sumBy cR x.expander.macros + 1 + 1 + 1 + sumBy cU x.units)).map exportC)] := by rw [worldC_eq, mkW_eq]; rfl
theorem mkW_fix {x : World} {n : Int} (h : mkW x n = x) : seqM mkB cB x.expander.bindings (n) = x.expander.bindings ∧ seqM mkR cR x.expander.macros (n + sumBy cB x.expander.bindings) = x.expander.macros ∧ x.expander.scope = n + sumBy cB x.expander.bindings + sumBy cR x.expander.macros ∧ x.expander.vari = n + sumBy cB x.expander.bindings + sumBy cR x.expander.macros + 1 ∧ x.expander.steps = n + sumBy cB x.expander.bindings + sumBy cR x.expander.macros + 1 + 1 ∧ seqM mkU cU x.units (n + sumBy cB x.expander.bindings + sumBy cR x.expander.macros + 1 + 1 + 1) = x.units ∧ seqM mkE cE x.exports (n + sumBy cB x.expander.bindings + sumBy cR x.expander.macros + 1 + 1 + 1 + sumBy cU x.units) = x.exports := by
  have e := h.symm; rw [mkW_eq] at e
  exact ⟨(congrArg (fun z => z.expander.bindings) e).symm, (congrArg (fun z => z.expander.macros) e).symm, congrArg (fun z => z.expander.scope) e, congrArg (fun z => z.expander.vari) e, congrArg (fun z => z.expander.steps) e, (congrArg (fun z => z.units) e).symm, (congrArg (fun z => z.exports) e).symm⟩
instance : Marks mkW cW := ⟨fun x n => by simp only [mkW_eq, seqM_len, sum_seqM, seqM_idem], fun x n => by simp only [cW_eq, mkW_eq, seqM_len, sum_seqM]⟩
theorem cW_le (x : World) : cW x ≤ 16 + 16 * wW x := by
  have b0 := sumBy_le16 x.expander.bindings (fun y _ => cB_le y)
  have b1 := sumBy_le16 x.expander.macros (fun y _ => cR_le y)
  have b2 := sumBy_le16 x.units (fun y _ => cU_le y)
  have b3 := sumBy_le16 x.exports (fun y _ => cE_le y)
  simp only [cW_eq, wW_eq, wS, wX_eq]
  omega
theorem cW_len (L : List World) : L.length ≤ sumBy cW L := sumBy_len (fun x => by rw [cW_eq]; omega) L

end Go.Proofs.Ytamcedjjlokfhaa
