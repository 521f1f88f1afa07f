/- The program's structs as Lean structures, their cells, their weights. No condition. -/
import Derived.Test.YtamcedjjlokfhaaBase
namespace Go.Proofs.Ytamcedjjlokfhaa
open Go Go.Proofs.Ytamcedjjlokfhaa.Ab
set_option linter.unusedVariables false

def sumBy {α : Type} (f : α → Nat) : List α → Nat
  | [] => 0
  | x :: r => f x + sumBy f r
theorem sumBy_append {α : Type} (f : α → Nat) : ∀ (a b : List α), sumBy f (a ++ b) = sumBy f a + sumBy f b
  | [], b => by simp [sumBy]
  | x :: a, b => by simp only [List.cons_append, sumBy, sumBy_append f a b]; omega
theorem sumBy_drop {α : Type} [Inhabited α] (f : α → Nat) {L : List α} {k : Nat} (h : k < L.length) : sumBy f (L.drop k) = f (L.getD k default) + sumBy f (L.drop (k + 1)) := by
  rw [drop_get h, sumBy]
theorem sumBy_mem {α : Type} (f : α → Nat) : ∀ {L : List α} {x : α}, x ∈ L → f x ≤ sumBy f L
  | y :: r, x, h => by
    rcases List.mem_cons.1 h with rfl | h
    · simp only [sumBy]; omega
    · have := sumBy_mem f h; simp only [sumBy]; omega
theorem sumBy_step {α : Type} [Inhabited α] (c : α → Nat) {L : List α} {i : Nat} (h : i < L.length) : sumBy c (L.take (i + 1)) = sumBy c (L.take i) + c (L.getD i default) := by
  rw [take_get h, sumBy_append]; simp [sumBy]
theorem sumBy_takeLe {α : Type} (c : α → Nat) (L : List α) (i : Nat) : sumBy c (L.take i) ≤ sumBy c L := by
  have := sumBy_append c (L.take i) (L.drop i)
  rw [List.take_append_drop] at this; omega
theorem sumBy_one {α : Type} : ∀ L : List α, sumBy (fun _ => 1) L = L.length
  | [] => rfl
  | x :: r => by simp only [sumBy, sumBy_one r, List.length_cons]; omega
theorem sumBy_zero {α : Type} : ∀ L : List α, sumBy (fun _ => 0) L = 0
  | [] => rfl
  | x :: r => by simp only [sumBy, sumBy_zero r]
def wS (L : List ByteArray) : Nat := L.length + sumBy ByteArray.size L
theorem foldl_step {α β : Type} [Inhabited β] (f : α → β → α) (a : α) {L : List β} {k : Nat} (h : k < L.length) : (L.take (k + 1)).foldl f a = f ((L.take k).foldl f a) (L.getD k default) := by
  rw [take_get h, List.foldl_append]; rfl
theorem foldl_len {α β : Type} (f : List α → β → List α) (w : β → Nat) : ∀ (L : List β), (∀ y ∈ L, ∀ o, (f o y).length ≤ o.length + 1 + w y) → ∀ o, (L.foldl f o).length ≤ o.length + L.length + sumBy w L
  | [], _, o => by simp [sumBy]
  | x :: r, hL, o => by
    have h1 := hL x List.mem_cons_self o
    have h2 := foldl_len f w r (fun y hy => hL y (List.mem_cons_of_mem _ hy)) (f o x)
    simp only [List.foldl_cons, sumBy, List.length_cons]; omega

structure Datum where
  kind : Int
  number : Int
  text : ByteArray
  items : List Datum
instance : Inhabited Datum := ⟨⟨0, 0, .empty, []⟩⟩
mutual
def datumC : Datum → List Cell
  | ⟨kind', number', text', items'⟩ => [cI kind', cI number', cS text', .list (datumCs items')]
def datumCs : List Datum → List (List Cell)
  | [] => []
  | x :: r => datumC x :: datumCs r
end
theorem datumCs_map : ∀ l : List Datum, datumCs l = l.map datumC
  | [] => by rw [datumCs]; rfl
  | x :: r => by rw [datumCs, datumCs_map r]; rfl
def datumF (x : Datum) : List Cell := [cI x.kind, cI x.number, cS x.text, .list (x.items.map datumC)]
theorem datumC_eq (x : Datum) : datumC x = datumF x := by cases x; simp only [datumC, datumF, datumCs_map]
mutual
def datumEq : Datum → Datum → Bool
  | ⟨kind1, number1, text1, items1⟩, ⟨kind2, number2, text2, items2⟩ => decide (kind1 = kind2) && decide (number1 = number2) && decide (text1 = text2) && datumEqs items1 items2
def datumEqs : List Datum → List Datum → Bool
  | [], [] => true
  | x :: r, y :: t => datumEq x y && datumEqs r t
  | _, _ => false
end
mutual
theorem datumEq_iff : ∀ a b : Datum, datumEq a b = true ↔ a = b
  | ⟨kind1, number1, text1, items1⟩, ⟨kind2, number2, text2, items2⟩ => by rw [datumEq]; simp only [Bool.and_eq_true, decide_eq_true_eq, datumEqs_iff items1 items2, Datum.mk.injEq, and_assoc]
theorem datumEqs_iff : ∀ a b : List Datum, datumEqs a b = true ↔ a = b
  | [], [] => by simp [datumEqs]
  | [], _ :: _ => by simp [datumEqs]
  | _ :: _, [] => by simp [datumEqs]
  | x :: r, y :: t => by rw [datumEqs, Bool.and_eq_true, datumEq_iff x y, datumEqs_iff r t, List.cons.injEq]
end
instance : DecidableEq Datum := fun a b => decidable_of_iff _ (datumEq_iff a b)
mutual
theorem Datum.ind {P : Datum → Prop} (h : ∀ x, (∀ y ∈ x.items, P y) → P x) : ∀ x, P x
  | ⟨kind', number', text', items'⟩ => h _ (fun y hy => Datum.inds h items' y hy)
theorem Datum.inds {P : Datum → Prop} (h : ∀ x, (∀ y ∈ x.items, P y) → P x) : ∀ (l : List Datum), ∀ y ∈ l, P y
  | [], y, hy => by cases hy
  | x :: r, y, hy => (List.mem_cons.1 hy).elim (fun e => e ▸ Datum.ind h x) (fun hy => Datum.inds h r y hy)
end
theorem datumExt (a b : Datum) : a = b ↔ a.kind = b.kind ∧ a.number = b.number ∧ a.text = b.text ∧ a.items = b.items := by cases a; cases b; simp only [Datum.mk.injEq]
instance : Row Datum datumC datumF 4 := ⟨datumC_eq, fun _ => rfl⟩
abbrev datumA (x : Datum) : SV := .agg (vals (datumF x))
abbrev datumR (x : Datum) (i : Nat) : SV := .agg [vI x.kind, vI x.number, vS x.text, .ref (i + 0)]
abbrev datumO (x : Datum) : List Ob := [.arr true 4 (x.items.map datumC)]
theorem datumGet {L : List Datum} {i : Nat} (h : i < L.length) : (L.map datumC)[i]? = some (datumF (L.getD i default)) := getC h (datumC_eq _)
mutual
def wD : Datum → Nat
  | ⟨_, _, text', items'⟩ => text'.size + wDs items'
def wDs : List Datum → Nat
  | [] => 0
  | d :: r => 1 + wD d + wDs r
end
theorem wDs_eq : ∀ l, wDs l = l.length + sumBy wD l
  | [] => by simp [wDs, sumBy]
  | d :: r => by rw [wDs, wDs_eq r]; simp only [sumBy, List.length_cons]; omega
theorem wD_eq (x : Datum) : wD x = x.text.size + (x.items.length + sumBy wD x.items) := by cases x; simp only [wD, wDs_eq]

structure Core where
  kind : Int
  number : Int
  params : List Int
  datum : Datum
  kids : List Core
instance : Inhabited Core := ⟨⟨0, 0, [], (default : Datum), []⟩⟩
mutual
def coreC : Core → List Cell
  | ⟨kind', number', params', datum', kids'⟩ => [cI kind', cI number', .list (params'.map intC), cI datum'.kind, cI datum'.number, cS datum'.text, .list (datum'.items.map datumC), .list (coreCs kids')]
def coreCs : List Core → List (List Cell)
  | [] => []
  | x :: r => coreC x :: coreCs r
end
theorem coreCs_map : ∀ l : List Core, coreCs l = l.map coreC
  | [] => by rw [coreCs]; rfl
  | x :: r => by rw [coreCs, coreCs_map r]; rfl
def coreF (x : Core) : List Cell := [cI x.kind, cI x.number, .list (x.params.map intC), cI x.datum.kind, cI x.datum.number, cS x.datum.text, .list (x.datum.items.map datumC), .list (x.kids.map coreC)]
theorem coreC_eq (x : Core) : coreC x = coreF x := by cases x; simp only [coreC, coreF, coreCs_map]
mutual
def coreEq : Core → Core → Bool
  | ⟨kind1, number1, params1, datum1, kids1⟩, ⟨kind2, number2, params2, datum2, kids2⟩ => decide (kind1 = kind2) && decide (number1 = number2) && decide (params1 = params2) && decide (datum1 = datum2) && coreEqs kids1 kids2
def coreEqs : List Core → List Core → Bool
  | [], [] => true
  | x :: r, y :: t => coreEq x y && coreEqs r t
  | _, _ => false
end
mutual
theorem coreEq_iff : ∀ a b : Core, coreEq a b = true ↔ a = b
  | ⟨kind1, number1, params1, datum1, kids1⟩, ⟨kind2, number2, params2, datum2, kids2⟩ => by rw [coreEq]; simp only [Bool.and_eq_true, decide_eq_true_eq, coreEqs_iff kids1 kids2, Core.mk.injEq, and_assoc]
theorem coreEqs_iff : ∀ a b : List Core, coreEqs a b = true ↔ a = b
  | [], [] => by simp [coreEqs]
  | [], _ :: _ => by simp [coreEqs]
  | _ :: _, [] => by simp [coreEqs]
  | x :: r, y :: t => by rw [coreEqs, Bool.and_eq_true, coreEq_iff x y, coreEqs_iff r t, List.cons.injEq]
end
instance : DecidableEq Core := fun a b => decidable_of_iff _ (coreEq_iff a b)
mutual
theorem Core.ind {P : Core → Prop} (h : ∀ x, (∀ y ∈ x.kids, P y) → P x) : ∀ x, P x
  | ⟨kind', number', params', datum', kids'⟩ => h _ (fun y hy => Core.inds h kids' y hy)
theorem Core.inds {P : Core → Prop} (h : ∀ x, (∀ y ∈ x.kids, P y) → P x) : ∀ (l : List Core), ∀ y ∈ l, P y
  | [], y, hy => by cases hy
  | x :: r, y, hy => (List.mem_cons.1 hy).elim (fun e => e ▸ Core.ind h x) (fun hy => Core.inds h r y hy)
end
theorem coreExt (a b : Core) : a = b ↔ a.kind = b.kind ∧ a.number = b.number ∧ a.params = b.params ∧ a.datum = b.datum ∧ a.kids = b.kids := by cases a; cases b; simp only [Core.mk.injEq]
instance : Row Core coreC coreF 8 := ⟨coreC_eq, fun _ => rfl⟩
abbrev coreA (x : Core) : SV := .agg (vals (coreF x))
abbrev coreR (x : Core) (i : Nat) : SV := .agg [vI x.kind, vI x.number, .ref (i + 0), vI x.datum.kind, vI x.datum.number, vS x.datum.text, .ref (i + 1), .ref (i + 2)]
abbrev coreO (x : Core) : List Ob := [.arr true 1 (x.params.map intC), .arr true 4 (x.datum.items.map datumC), .arr true 8 (x.kids.map coreC)]
theorem coreGet {L : List Core} {i : Nat} (h : i < L.length) : (L.map coreC)[i]? = some (coreF (L.getD i default)) := getC h (coreC_eq _)
mutual
def wC : Core → Nat
  | ⟨_, _, params', datum', kids'⟩ => params'.length + wD datum' + wCs kids'
def wCs : List Core → Nat
  | [] => 0
  | d :: r => 1 + wC d + wCs r
end
theorem wCs_eq : ∀ l, wCs l = l.length + sumBy wC l
  | [] => by simp [wCs, sumBy]
  | d :: r => by rw [wCs, wCs_eq r]; simp only [sumBy, List.length_cons]; omega
theorem wC_eq (x : Core) : wC x = x.params.length + wD x.datum + (x.kids.length + sumBy wC x.kids) := by cases x; simp only [wC, wCs_eq]

structure Syntax where
  kind : Int
  number : Int
  text : ByteArray
  scopes : List Int
  items : List Syntax
instance : Inhabited Syntax := ⟨⟨0, 0, .empty, [], []⟩⟩
mutual
def syntaxC : Syntax → List Cell
  | ⟨kind', number', text', scopes', items'⟩ => [cI kind', cI number', cS text', .list (scopes'.map intC), .list (syntaxCs items')]
def syntaxCs : List Syntax → List (List Cell)
  | [] => []
  | x :: r => syntaxC x :: syntaxCs r
end
theorem syntaxCs_map : ∀ l : List Syntax, syntaxCs l = l.map syntaxC
  | [] => by rw [syntaxCs]; rfl
  | x :: r => by rw [syntaxCs, syntaxCs_map r]; rfl
def syntaxF (x : Syntax) : List Cell := [cI x.kind, cI x.number, cS x.text, .list (x.scopes.map intC), .list (x.items.map syntaxC)]
theorem syntaxC_eq (x : Syntax) : syntaxC x = syntaxF x := by cases x; simp only [syntaxC, syntaxF, syntaxCs_map]
mutual
def syntaxEq : Syntax → Syntax → Bool
  | ⟨kind1, number1, text1, scopes1, items1⟩, ⟨kind2, number2, text2, scopes2, items2⟩ => decide (kind1 = kind2) && decide (number1 = number2) && decide (text1 = text2) && decide (scopes1 = scopes2) && syntaxEqs items1 items2
def syntaxEqs : List Syntax → List Syntax → Bool
  | [], [] => true
  | x :: r, y :: t => syntaxEq x y && syntaxEqs r t
  | _, _ => false
end
mutual
theorem syntaxEq_iff : ∀ a b : Syntax, syntaxEq a b = true ↔ a = b
  | ⟨kind1, number1, text1, scopes1, items1⟩, ⟨kind2, number2, text2, scopes2, items2⟩ => by rw [syntaxEq]; simp only [Bool.and_eq_true, decide_eq_true_eq, syntaxEqs_iff items1 items2, Syntax.mk.injEq, and_assoc]
theorem syntaxEqs_iff : ∀ a b : List Syntax, syntaxEqs a b = true ↔ a = b
  | [], [] => by simp [syntaxEqs]
  | [], _ :: _ => by simp [syntaxEqs]
  | _ :: _, [] => by simp [syntaxEqs]
  | x :: r, y :: t => by rw [syntaxEqs, Bool.and_eq_true, syntaxEq_iff x y, syntaxEqs_iff r t, List.cons.injEq]
end
instance : DecidableEq Syntax := fun a b => decidable_of_iff _ (syntaxEq_iff a b)
mutual
theorem Syntax.ind {P : Syntax → Prop} (h : ∀ x, (∀ y ∈ x.items, P y) → P x) : ∀ x, P x
  | ⟨kind', number', text', scopes', items'⟩ => h _ (fun y hy => Syntax.inds h items' y hy)
theorem Syntax.inds {P : Syntax → Prop} (h : ∀ x, (∀ y ∈ x.items, P y) → P x) : ∀ (l : List Syntax), ∀ y ∈ l, P y
  | [], y, hy => by cases hy
  | x :: r, y, hy => (List.mem_cons.1 hy).elim (fun e => e ▸ Syntax.ind h x) (fun hy => Syntax.inds h r y hy)
end
theorem syntaxExt (a b : Syntax) : a = b ↔ a.kind = b.kind ∧ a.number = b.number ∧ a.text = b.text ∧ a.scopes = b.scopes ∧ a.items = b.items := by cases a; cases b; simp only [Syntax.mk.injEq]
instance : Row Syntax syntaxC syntaxF 5 := ⟨syntaxC_eq, fun _ => rfl⟩
abbrev syntaxA (x : Syntax) : SV := .agg (vals (syntaxF x))
abbrev syntaxR (x : Syntax) (i : Nat) : SV := .agg [vI x.kind, vI x.number, vS x.text, .ref (i + 0), .ref (i + 1)]
abbrev syntaxO (x : Syntax) : List Ob := [.arr true 1 (x.scopes.map intC), .arr true 5 (x.items.map syntaxC)]
theorem syntaxGet {L : List Syntax} {i : Nat} (h : i < L.length) : (L.map syntaxC)[i]? = some (syntaxF (L.getD i default)) := getC h (syntaxC_eq _)
mutual
def wY : Syntax → Nat
  | ⟨_, _, text', scopes', items'⟩ => text'.size + scopes'.length + wYs items'
def wYs : List Syntax → Nat
  | [] => 0
  | d :: r => 1 + wY d + wYs r
end
theorem wYs_eq : ∀ l, wYs l = l.length + sumBy wY l
  | [] => by simp [wYs, sumBy]
  | d :: r => by rw [wYs, wYs_eq r]; simp only [sumBy, List.length_cons]; omega
theorem wY_eq (x : Syntax) : wY x = x.text.size + x.scopes.length + (x.items.length + sumBy wY x.items) := by cases x; simp only [wY, wYs_eq]

structure Binding where
  text : ByteArray
  scopes : List Int
  kind : Int
  number : Int
instance : Inhabited Binding := ⟨⟨.empty, [], 0, 0⟩⟩
def bindingF (x : Binding) : List Cell := [cS x.text, .list (x.scopes.map intC), cI x.kind, cI x.number]
def bindingC (x : Binding) : List Cell := bindingF x
theorem bindingC_eq (x : Binding) : bindingC x = bindingF x := rfl
instance : DecidableEq Binding := fun a b => by cases a; cases b; rw [Binding.mk.injEq]; infer_instance
theorem bindingExt (a b : Binding) : a = b ↔ a.text = b.text ∧ a.scopes = b.scopes ∧ a.kind = b.kind ∧ a.number = b.number := by cases a; cases b; simp only [Binding.mk.injEq]
instance : Row Binding bindingC bindingF 4 := ⟨bindingC_eq, fun _ => rfl⟩
abbrev bindingA (x : Binding) : SV := .agg (vals (bindingF x))
abbrev bindingR (x : Binding) (i : Nat) : SV := .agg [vS x.text, .ref (i + 0), vI x.kind, vI x.number]
abbrev bindingO (x : Binding) : List Ob := [.arr true 1 (x.scopes.map intC)]
theorem bindingGet {L : List Binding} {i : Nat} (h : i < L.length) : (L.map bindingC)[i]? = some (bindingF (L.getD i default)) := getC h (bindingC_eq _)
def wB (x : Binding) : Nat := x.text.size + x.scopes.length
theorem wB_eq (x : Binding) : wB x = x.text.size + x.scopes.length := rfl

structure Rules where
  literals : List Syntax
  patterns : List Syntax
  templates : List Syntax
instance : Inhabited Rules := ⟨⟨[], [], []⟩⟩
def rulesF (x : Rules) : List Cell := [.list (x.literals.map syntaxC), .list (x.patterns.map syntaxC), .list (x.templates.map syntaxC)]
def rulesC (x : Rules) : List Cell := rulesF x
theorem rulesC_eq (x : Rules) : rulesC x = rulesF x := rfl
instance : DecidableEq Rules := fun a b => by cases a; cases b; rw [Rules.mk.injEq]; infer_instance
theorem rulesExt (a b : Rules) : a = b ↔ a.literals = b.literals ∧ a.patterns = b.patterns ∧ a.templates = b.templates := by cases a; cases b; simp only [Rules.mk.injEq]
instance : Row Rules rulesC rulesF 3 := ⟨rulesC_eq, fun _ => rfl⟩
abbrev rulesA (x : Rules) : SV := .agg (vals (rulesF x))
abbrev rulesR (x : Rules) (i : Nat) : SV := .agg [.ref (i + 0), .ref (i + 1), .ref (i + 2)]
abbrev rulesO (x : Rules) : List Ob := [.arr true 5 (x.literals.map syntaxC), .arr true 5 (x.patterns.map syntaxC), .arr true 5 (x.templates.map syntaxC)]
theorem rulesGet {L : List Rules} {i : Nat} (h : i < L.length) : (L.map rulesC)[i]? = some (rulesF (L.getD i default)) := getC h (rulesC_eq _)
def wR (x : Rules) : Nat := (x.literals.length + sumBy wY x.literals) + (x.patterns.length + sumBy wY x.patterns) + (x.templates.length + sumBy wY x.templates)
theorem wR_eq (x : Rules) : wR x = (x.literals.length + sumBy wY x.literals) + (x.patterns.length + sumBy wY x.patterns) + (x.templates.length + sumBy wY x.templates) := rfl

structure Capture where
  name : Syntax
  depth : Int
  form : Syntax
  each : List Capture
instance : Inhabited Capture := ⟨⟨(default : Syntax), 0, (default : Syntax), []⟩⟩
mutual
def captureC : Capture → List Cell
  | ⟨name', depth', form', each'⟩ => [cI name'.kind, cI name'.number, cS name'.text, .list (name'.scopes.map intC), .list (name'.items.map syntaxC), cI depth', cI form'.kind, cI form'.number, cS form'.text, .list (form'.scopes.map intC), .list (form'.items.map syntaxC), .list (captureCs each')]
def captureCs : List Capture → List (List Cell)
  | [] => []
  | x :: r => captureC x :: captureCs r
end
theorem captureCs_map : ∀ l : List Capture, captureCs l = l.map captureC
  | [] => by rw [captureCs]; rfl
  | x :: r => by rw [captureCs, captureCs_map r]; rfl
def captureF (x : Capture) : List Cell := [cI x.name.kind, cI x.name.number, cS x.name.text, .list (x.name.scopes.map intC), .list (x.name.items.map syntaxC), cI x.depth, cI x.form.kind, cI x.form.number, cS x.form.text, .list (x.form.scopes.map intC), .list (x.form.items.map syntaxC), .list (x.each.map captureC)]
theorem captureC_eq (x : Capture) : captureC x = captureF x := by cases x; simp only [captureC, captureF, captureCs_map]
mutual
def captureEq : Capture → Capture → Bool
  | ⟨name1, depth1, form1, each1⟩, ⟨name2, depth2, form2, each2⟩ => decide (name1 = name2) && decide (depth1 = depth2) && decide (form1 = form2) && captureEqs each1 each2
def captureEqs : List Capture → List Capture → Bool
  | [], [] => true
  | x :: r, y :: t => captureEq x y && captureEqs r t
  | _, _ => false
end
mutual
theorem captureEq_iff : ∀ a b : Capture, captureEq a b = true ↔ a = b
  | ⟨name1, depth1, form1, each1⟩, ⟨name2, depth2, form2, each2⟩ => by rw [captureEq]; simp only [Bool.and_eq_true, decide_eq_true_eq, captureEqs_iff each1 each2, Capture.mk.injEq, and_assoc]
theorem captureEqs_iff : ∀ a b : List Capture, captureEqs a b = true ↔ a = b
  | [], [] => by simp [captureEqs]
  | [], _ :: _ => by simp [captureEqs]
  | _ :: _, [] => by simp [captureEqs]
  | x :: r, y :: t => by rw [captureEqs, Bool.and_eq_true, captureEq_iff x y, captureEqs_iff r t, List.cons.injEq]
end
instance : DecidableEq Capture := fun a b => decidable_of_iff _ (captureEq_iff a b)
mutual
theorem Capture.ind {P : Capture → Prop} (h : ∀ x, (∀ y ∈ x.each, P y) → P x) : ∀ x, P x
  | ⟨name', depth', form', each'⟩ => h _ (fun y hy => Capture.inds h each' y hy)
theorem Capture.inds {P : Capture → Prop} (h : ∀ x, (∀ y ∈ x.each, P y) → P x) : ∀ (l : List Capture), ∀ y ∈ l, P y
  | [], y, hy => by cases hy
  | x :: r, y, hy => (List.mem_cons.1 hy).elim (fun e => e ▸ Capture.ind h x) (fun hy => Capture.inds h r y hy)
end
theorem captureExt (a b : Capture) : a = b ↔ a.name = b.name ∧ a.depth = b.depth ∧ a.form = b.form ∧ a.each = b.each := by cases a; cases b; simp only [Capture.mk.injEq]
instance : Row Capture captureC captureF 12 := ⟨captureC_eq, fun _ => rfl⟩
abbrev captureA (x : Capture) : SV := .agg (vals (captureF x))
abbrev captureR (x : Capture) (i : Nat) : SV := .agg [vI x.name.kind, vI x.name.number, vS x.name.text, .ref (i + 0), .ref (i + 1), vI x.depth, vI x.form.kind, vI x.form.number, vS x.form.text, .ref (i + 2), .ref (i + 3), .ref (i + 4)]
abbrev captureO (x : Capture) : List Ob := [.arr true 1 (x.name.scopes.map intC), .arr true 5 (x.name.items.map syntaxC), .arr true 1 (x.form.scopes.map intC), .arr true 5 (x.form.items.map syntaxC), .arr true 12 (x.each.map captureC)]
theorem captureGet {L : List Capture} {i : Nat} (h : i < L.length) : (L.map captureC)[i]? = some (captureF (L.getD i default)) := getC h (captureC_eq _)
mutual
def wP : Capture → Nat
  | ⟨name', _, form', each'⟩ => wY name' + wY form' + wPs each'
def wPs : List Capture → Nat
  | [] => 0
  | d :: r => 1 + wP d + wPs r
end
theorem wPs_eq : ∀ l, wPs l = l.length + sumBy wP l
  | [] => by simp [wPs, sumBy]
  | d :: r => by rw [wPs, wPs_eq r]; simp only [sumBy, List.length_cons]; omega
theorem wP_eq (x : Capture) : wP x = wY x.name + wY x.form + (x.each.length + sumBy wP x.each) := by cases x; simp only [wP, wPs_eq]

structure Expander where
  bindings : List Binding
  macros : List Rules
  scope : Int
  vari : Int
  steps : Int
instance : Inhabited Expander := ⟨⟨[], [], 0, 0, 0⟩⟩
def expanderF (x : Expander) : List Cell := [.list (x.bindings.map bindingC), .list (x.macros.map rulesC), cI x.scope, cI x.vari, cI x.steps]
def expanderC (x : Expander) : List Cell := expanderF x
theorem expanderC_eq (x : Expander) : expanderC x = expanderF x := rfl
instance : DecidableEq Expander := fun a b => by cases a; cases b; rw [Expander.mk.injEq]; infer_instance
theorem expanderExt (a b : Expander) : a = b ↔ a.bindings = b.bindings ∧ a.macros = b.macros ∧ a.scope = b.scope ∧ a.vari = b.vari ∧ a.steps = b.steps := by cases a; cases b; simp only [Expander.mk.injEq]
instance : Row Expander expanderC expanderF 5 := ⟨expanderC_eq, fun _ => rfl⟩
abbrev expanderA (x : Expander) : SV := .agg (vals (expanderF x))
abbrev expanderR (x : Expander) (i : Nat) : SV := .agg [.ref (i + 0), .ref (i + 1), vI x.scope, vI x.vari, vI x.steps]
abbrev expanderO (x : Expander) : List Ob := [.arr true 4 (x.bindings.map bindingC), .arr true 3 (x.macros.map rulesC)]
theorem expanderGet {L : List Expander} {i : Nat} (h : i < L.length) : (L.map expanderC)[i]? = some (expanderF (L.getD i default)) := getC h (expanderC_eq _)
def wX (x : Expander) : Nat := (x.bindings.length + sumBy wB x.bindings) + (x.macros.length + sumBy wR x.macros)
theorem wX_eq (x : Expander) : wX x = (x.bindings.length + sumBy wB x.bindings) + (x.macros.length + sumBy wR x.macros) := rfl

structure Module where
  name : ByteArray
  imports : List ByteArray
  exports : List ByteArray
  body : List Datum
instance : Inhabited Module := ⟨⟨.empty, [], [], []⟩⟩
def moduleF (x : Module) : List Cell := [cS x.name, .list (x.imports.map strC), .list (x.exports.map strC), .list (x.body.map datumC)]
def moduleC (x : Module) : List Cell := moduleF x
theorem moduleC_eq (x : Module) : moduleC x = moduleF x := rfl
instance : DecidableEq Module := fun a b => by cases a; cases b; rw [Module.mk.injEq]; infer_instance
theorem moduleExt (a b : Module) : a = b ↔ a.name = b.name ∧ a.imports = b.imports ∧ a.exports = b.exports ∧ a.body = b.body := by cases a; cases b; simp only [Module.mk.injEq]
instance : Row Module moduleC moduleF 4 := ⟨moduleC_eq, fun _ => rfl⟩
abbrev moduleA (x : Module) : SV := .agg (vals (moduleF x))
abbrev moduleR (x : Module) (i : Nat) : SV := .agg [vS x.name, .ref (i + 0), .ref (i + 1), .ref (i + 2)]
abbrev moduleO (x : Module) : List Ob := [.arr true 1 (x.imports.map strC), .arr true 1 (x.exports.map strC), .arr true 4 (x.body.map datumC)]
theorem moduleGet {L : List Module} {i : Nat} (h : i < L.length) : (L.map moduleC)[i]? = some (moduleF (L.getD i default)) := getC h (moduleC_eq _)
def wM (x : Module) : Nat := x.name.size + wS x.imports + wS x.exports + (x.body.length + sumBy wD x.body)
theorem wM_eq (x : Module) : wM x = x.name.size + wS x.imports + wS x.exports + (x.body.length + sumBy wD x.body) := rfl

structure Export where
  modul : ByteArray
  text : ByteArray
  kind : Int
  number : Int
instance : Inhabited Export := ⟨⟨.empty, .empty, 0, 0⟩⟩
def exportF (x : Export) : List Cell := [cS x.modul, cS x.text, cI x.kind, cI x.number]
def exportC (x : Export) : List Cell := exportF x
theorem exportC_eq (x : Export) : exportC x = exportF x := rfl
instance : DecidableEq Export := fun a b => by cases a; cases b; rw [Export.mk.injEq]; infer_instance
theorem exportExt (a b : Export) : a = b ↔ a.modul = b.modul ∧ a.text = b.text ∧ a.kind = b.kind ∧ a.number = b.number := by cases a; cases b; simp only [Export.mk.injEq]
instance : Row Export exportC exportF 4 := ⟨exportC_eq, fun _ => rfl⟩
abbrev exportA (x : Export) : SV := .agg (vals (exportF x))
abbrev exportR (x : Export) (i : Nat) : SV := .agg [vS x.modul, vS x.text, vI x.kind, vI x.number]
abbrev exportO (x : Export) : List Ob := []
theorem exportGet {L : List Export} {i : Nat} (h : i < L.length) : (L.map exportC)[i]? = some (exportF (L.getD i default)) := getC h (exportC_eq _)
def wE (x : Export) : Nat := x.modul.size + x.text.size
theorem wE_eq (x : Export) : wE x = x.modul.size + x.text.size := rfl

structure Unit where
  name : ByteArray
  globals : List Int
  body : Core
instance : Inhabited Unit := ⟨⟨.empty, [], (default : Core)⟩⟩
def unitF (x : Unit) : List Cell := [cS x.name, .list (x.globals.map intC), cI x.body.kind, cI x.body.number, .list (x.body.params.map intC), cI x.body.datum.kind, cI x.body.datum.number, cS x.body.datum.text, .list (x.body.datum.items.map datumC), .list (x.body.kids.map coreC)]
def unitC (x : Unit) : List Cell := unitF x
theorem unitC_eq (x : Unit) : unitC x = unitF x := rfl
instance : DecidableEq Unit := fun a b => by cases a; cases b; rw [Unit.mk.injEq]; infer_instance
theorem unitExt (a b : Unit) : a = b ↔ a.name = b.name ∧ a.globals = b.globals ∧ a.body = b.body := by cases a; cases b; simp only [Unit.mk.injEq]
instance : Row Unit unitC unitF 10 := ⟨unitC_eq, fun _ => rfl⟩
abbrev unitA (x : Unit) : SV := .agg (vals (unitF x))
abbrev unitR (x : Unit) (i : Nat) : SV := .agg [vS x.name, .ref (i + 0), vI x.body.kind, vI x.body.number, .ref (i + 1), vI x.body.datum.kind, vI x.body.datum.number, vS x.body.datum.text, .ref (i + 2), .ref (i + 3)]
abbrev unitO (x : Unit) : List Ob := [.arr true 1 (x.globals.map intC), .arr true 1 (x.body.params.map intC), .arr true 4 (x.body.datum.items.map datumC), .arr true 8 (x.body.kids.map coreC)]
theorem unitGet {L : List Unit} {i : Nat} (h : i < L.length) : (L.map unitC)[i]? = some (unitF (L.getD i default)) := getC h (unitC_eq _)
def wU (x : Unit) : Nat := x.name.size + x.globals.length + wC x.body
theorem wU_eq (x : Unit) : wU x = x.name.size + x.globals.length + wC x.body := rfl

structure World where
  expander : Expander
  units : List Unit
  exports : List Export
instance : Inhabited World := ⟨⟨(default : Expander), [], []⟩⟩
def worldF (x : World) : List Cell := [.list (x.expander.bindings.map bindingC), .list (x.expander.macros.map rulesC), cI x.expander.scope, cI x.expander.vari, cI x.expander.steps, .list (x.units.map unitC), .list (x.exports.map exportC)]
def worldC (x : World) : List Cell := worldF x
theorem worldC_eq (x : World) : worldC x = worldF x := rfl
instance : DecidableEq World := fun a b => by cases a; cases b; rw [World.mk.injEq]; infer_instance
theorem worldExt (a b : World) : a = b ↔ a.expander = b.expander ∧ a.units = b.units ∧ a.exports = b.exports := by cases a; cases b; simp only [World.mk.injEq]
instance : Row World worldC worldF 7 := ⟨worldC_eq, fun _ => rfl⟩
abbrev worldA (x : World) : SV := .agg (vals (worldF x))
abbrev worldR (x : World) (i : Nat) : SV := .agg [.ref (i + 0), .ref (i + 1), vI x.expander.scope, vI x.expander.vari, vI x.expander.steps, .ref (i + 2), .ref (i + 3)]
abbrev worldO (x : World) : List Ob := [.arr true 4 (x.expander.bindings.map bindingC), .arr true 3 (x.expander.macros.map rulesC), .arr true 10 (x.units.map unitC), .arr true 4 (x.exports.map exportC)]
theorem worldGet {L : List World} {i : Nat} (h : i < L.length) : (L.map worldC)[i]? = some (worldF (L.getD i default)) := getC h (worldC_eq _)
def wW (x : World) : Nat := wX x.expander + (x.units.length + sumBy wU x.units) + (x.exports.length + sumBy wE x.exports)
theorem wW_eq (x : World) : wW x = wX x.expander + (x.units.length + sumBy wU x.units) + (x.exports.length + sumBy wE x.exports) := rfl

/-- what the laws' sz functions answer -/
def sz (w : Nat) (left : Int) : Int := if (w : Int) ≤ left then left - w else -1
theorem sz_add (a b : Nat) (n : Int) : sz (a + b) n = if n - a < 0 then -1 else sz b (n - a) := by unfold sz; split <;> split <;> (try split) <;> omega
end Go.Proofs.Ytamcedjjlokfhaa
