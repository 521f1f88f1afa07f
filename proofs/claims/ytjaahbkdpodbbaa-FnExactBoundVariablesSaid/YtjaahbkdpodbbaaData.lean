/- The program's structs as Lean structures, and their cells. No condition. -/
import Derived.Test.YtjaahbkdpodbbaaBase
namespace Go.Proofs.Ytjaahbkdpodbbaa
open Go Go.Proofs.Ytjaahbkdpodbbaa.Ab
set_option linter.unusedVariables false

structure Outcome where
  status : Int
  text : ByteArray
  output : List ByteArray
  ticks : Int
  made : Int
instance : Inhabited Outcome := ⟨⟨0, .empty, [], 0, 0⟩⟩
def outcomeF (x : Outcome) : List Cell := [cI x.status, cS x.text, .list (x.output.map strC), cI x.ticks, cI x.made]
def outcomeC (x : Outcome) : List Cell := outcomeF x
theorem outcomeC_eq (x : Outcome) : outcomeC x = outcomeF x := rfl
instance : DecidableEq Outcome := fun a b => by cases a; cases b; rw [Outcome.mk.injEq]; infer_instance
theorem outcomeExt (a b : Outcome) : a = b ↔ a.status = b.status ∧ a.text = b.text ∧ a.output = b.output ∧ a.ticks = b.ticks ∧ a.made = b.made := by cases a; cases b; simp only [Outcome.mk.injEq]
abbrev outcomeA (x : Outcome) : SV := .agg (vals (outcomeF x))
theorem outcomeGet {L : List Outcome} {i : Nat} (h : i < L.length) : (L.map outcomeC)[i]? = some (outcomeF (L.getD i default)) := getC h (outcomeC_eq _)

structure Datum where
  kind : Int
  number : Int
  text : ByteArray
  items : List Datum
instance : Inhabited Datum := ⟨⟨0, 0, .empty, []⟩⟩
mutual
def datumC : Datum → List Cell
  | ⟨kind', number', text', items'⟩ => [cI kind', cI number', cS text', .list (datumCs items')]
def datumCs : List Datum → List (List Cell)
  | [] => []
  | x :: r => datumC x :: datumCs r
end
theorem datumCs_map : ∀ l : List Datum, datumCs l = l.map datumC
  | [] => by rw [datumCs]; rfl
  | x :: r => by rw [datumCs, datumCs_map r]; rfl
def datumF (x : Datum) : List Cell := [cI x.kind, cI x.number, cS x.text, .list (x.items.map datumC)]
theorem datumC_eq (x : Datum) : datumC x = datumF x := by cases x; simp only [datumC, datumF, datumCs_map]
mutual
def datumEq : Datum → Datum → Bool
  | ⟨kind1, number1, text1, items1⟩, ⟨kind2, number2, text2, items2⟩ => decide (kind1 = kind2) && decide (number1 = number2) && decide (text1 = text2) && datumEqs items1 items2
def datumEqs : List Datum → List Datum → Bool
  | [], [] => true
  | x :: r, y :: t => datumEq x y && datumEqs r t
  | _, _ => false
end
mutual
theorem datumEq_iff : ∀ a b : Datum, datumEq a b = true ↔ a = b
  | ⟨kind1, number1, text1, items1⟩, ⟨kind2, number2, text2, items2⟩ => by rw [datumEq]; simp only [Bool.and_eq_true, decide_eq_true_eq, datumEqs_iff items1 items2, Datum.mk.injEq, and_assoc]
theorem datumEqs_iff : ∀ a b : List Datum, datumEqs a b = true ↔ a = b
  | [], [] => by simp [datumEqs]
  | [], _ :: _ => by simp [datumEqs]
  | _ :: _, [] => by simp [datumEqs]
  | x :: r, y :: t => by rw [datumEqs, Bool.and_eq_true, datumEq_iff x y, datumEqs_iff r t, List.cons.injEq]
end
instance : DecidableEq Datum := fun a b => decidable_of_iff _ (datumEq_iff a b)
mutual
theorem Datum.ind {P : Datum → Prop} (h : ∀ x, (∀ y ∈ x.items, P y) → P x) : ∀ x, P x
  | ⟨kind', number', text', items'⟩ => h _ (fun y hy => Datum.inds h items' y hy)
theorem Datum.inds {P : Datum → Prop} (h : ∀ x, (∀ y ∈ x.items, P y) → P x) : ∀ (l : List Datum), ∀ y ∈ l, P y
  | [], y, hy => by cases hy
  | x :: r, y, hy => (List.mem_cons.1 hy).elim (fun e => e ▸ Datum.ind h x) (fun hy => Datum.inds h r y hy)
end
theorem datumExt (a b : Datum) : a = b ↔ a.kind = b.kind ∧ a.number = b.number ∧ a.text = b.text ∧ a.items = b.items := by cases a; cases b; simp only [Datum.mk.injEq]
abbrev datumA (x : Datum) : SV := .agg (vals (datumF x))
theorem datumGet {L : List Datum} {i : Nat} (h : i < L.length) : (L.map datumC)[i]? = some (datumF (L.getD i default)) := getC h (datumC_eq _)

structure Core where
  kind : Int
  number : Int
  params : List Int
  datum : Datum
  kids : List Core
instance : Inhabited Core := ⟨⟨0, 0, [], (default : Datum), []⟩⟩
mutual
def coreC : Core → List Cell
  | ⟨kind', number', params', datum', kids'⟩ => [cI kind', cI number', .list (params'.map intC), cI datum'.kind, cI datum'.number, cS datum'.text, .list (datum'.items.map datumC), .list (coreCs kids')]
def coreCs : List Core → List (List Cell)
  | [] => []
  | x :: r => coreC x :: coreCs r
end
theorem coreCs_map : ∀ l : List Core, coreCs l = l.map coreC
  | [] => by rw [coreCs]; rfl
  | x :: r => by rw [coreCs, coreCs_map r]; rfl
def coreF (x : Core) : List Cell := [cI x.kind, cI x.number, .list (x.params.map intC), cI x.datum.kind, cI x.datum.number, cS x.datum.text, .list (x.datum.items.map datumC), .list (x.kids.map coreC)]
theorem coreC_eq (x : Core) : coreC x = coreF x := by cases x; simp only [coreC, coreF, coreCs_map]
mutual
def coreEq : Core → Core → Bool
  | ⟨kind1, number1, params1, datum1, kids1⟩, ⟨kind2, number2, params2, datum2, kids2⟩ => decide (kind1 = kind2) && decide (number1 = number2) && decide (params1 = params2) && decide (datum1 = datum2) && coreEqs kids1 kids2
def coreEqs : List Core → List Core → Bool
  | [], [] => true
  | x :: r, y :: t => coreEq x y && coreEqs r t
  | _, _ => false
end
mutual
theorem coreEq_iff : ∀ a b : Core, coreEq a b = true ↔ a = b
  | ⟨kind1, number1, params1, datum1, kids1⟩, ⟨kind2, number2, params2, datum2, kids2⟩ => by rw [coreEq]; simp only [Bool.and_eq_true, decide_eq_true_eq, coreEqs_iff kids1 kids2, Core.mk.injEq, and_assoc]
theorem coreEqs_iff : ∀ a b : List Core, coreEqs a b = true ↔ a = b
  | [], [] => by simp [coreEqs]
  | [], _ :: _ => by simp [coreEqs]
  | _ :: _, [] => by simp [coreEqs]
  | x :: r, y :: t => by rw [coreEqs, Bool.and_eq_true, coreEq_iff x y, coreEqs_iff r t, List.cons.injEq]
end
instance : DecidableEq Core := fun a b => decidable_of_iff _ (coreEq_iff a b)
mutual
theorem Core.ind {P : Core → Prop} (h : ∀ x, (∀ y ∈ x.kids, P y) → P x) : ∀ x, P x
  | ⟨kind', number', params', datum', kids'⟩ => h _ (fun y hy => Core.inds h kids' y hy)
theorem Core.inds {P : Core → Prop} (h : ∀ x, (∀ y ∈ x.kids, P y) → P x) : ∀ (l : List Core), ∀ y ∈ l, P y
  | [], y, hy => by cases hy
  | x :: r, y, hy => (List.mem_cons.1 hy).elim (fun e => e ▸ Core.ind h x) (fun hy => Core.inds h r y hy)
end
theorem coreExt (a b : Core) : a = b ↔ a.kind = b.kind ∧ a.number = b.number ∧ a.params = b.params ∧ a.datum = b.datum ∧ a.kids = b.kids := by cases a; cases b; simp only [Core.mk.injEq]
abbrev coreA (x : Core) : SV := .agg (vals (coreF x))
theorem coreGet {L : List Core} {i : Nat} (h : i < L.length) : (L.map coreC)[i]? = some (coreF (L.getD i default)) := getC h (coreC_eq _)

/-! ### weights -/
def sumBy {α : Type} (f : α → Nat) : List α → Nat
  | [] => 0
  | x :: r => f x + sumBy f r
theorem sumBy_append {α : Type} (f : α → Nat) : ∀ (a b : List α), sumBy f (a ++ b) = sumBy f a + sumBy f b
  | [], b => by simp [sumBy]
  | x :: a, b => by simp only [List.cons_append, sumBy, sumBy_append f a b]; omega
theorem sumBy_drop {α : Type} [Inhabited α] (f : α → Nat) {L : List α} {k : Nat} (h : k < L.length) : sumBy f (L.drop k) = f (L.getD k default) + sumBy f (L.drop (k + 1)) := by
  rw [drop_get h, sumBy]
theorem sumBy_mem {α : Type} (f : α → Nat) : ∀ {L : List α} {x : α}, x ∈ L → f x ≤ sumBy f L
  | y :: r, x, h => by
    rcases List.mem_cons.1 h with rfl | h
    · simp only [sumBy]; omega
    · have := sumBy_mem f h; simp only [sumBy]; omega

def wS (L : List ByteArray) : Nat := L.length + sumBy ByteArray.size L
mutual
def wD : Datum → Nat
  | ⟨_, _, t, l⟩ => t.size + wDs l
def wDs : List Datum → Nat
  | [] => 0
  | d :: r => 1 + wD d + wDs r
end
theorem wDs_eq : ∀ l, wDs l = l.length + sumBy wD l
  | [] => by simp [wDs, sumBy]
  | d :: r => by rw [wDs, wDs_eq r]; simp only [sumBy, List.length_cons]; omega
theorem wD_eq (d : Datum) : wD d = d.text.size + (d.items.length + sumBy wD d.items) := by cases d; simp only [wD, wDs_eq]
mutual
def wC : Core → Nat
  | ⟨_, _, p, d, l⟩ => p.length + wD d + wCs l
def wCs : List Core → Nat
  | [] => 0
  | d :: r => 1 + wC d + wCs r
end
theorem wCs_eq : ∀ l, wCs l = l.length + sumBy wC l
  | [] => by simp [wCs, sumBy]
  | d :: r => by rw [wCs, wCs_eq r]; simp only [sumBy, List.length_cons]; omega
theorem wC_eq (d : Core) : wC d = d.params.length + wD d.datum + (d.kids.length + sumBy wC d.kids) := by cases d; simp only [wC, wCs_eq]
def wO (o : Outcome) : Nat := o.text.size + wS o.output

/-- what the laws' sz functions answer -/
def sz (w : Nat) (left : Int) : Int := if (w : Int) ≤ left then left - w else -1
theorem sz_add (a b : Nat) (n : Int) : sz (a + b) n = if n - a < 0 then -1 else sz b (n - a) := by unfold sz; split <;> split <;> (try split) <;> omega
end Go.Proofs.Ytjaahbkdpodbbaa
