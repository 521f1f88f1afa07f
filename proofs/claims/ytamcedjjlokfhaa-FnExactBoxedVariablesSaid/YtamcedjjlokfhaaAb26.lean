/- The abstract machine, part 26: the same for the operations with an effect. No condition. -/
import Derived.Test.YtamcedjjlokfhaaAb25
namespace Go.Proofs.Ytamcedjjlokfhaa.Ab
open Go
set_option linter.unusedVariables false

section
variable {P : Program} {s s' : St}

theorem Le.eBox (h : Le s s') {x : Operand} {n : Nat} {r : Res} (e : Ab.eBox s x n = some r) : Ab.eBox s' x n = some r := by
  unfold Ab.eBox at e ⊢
  split at e
  · rename_i hv; rw [h.ev hv]; exact e
  · cases e

theorem Le.partCells (h : Le s s') : ∀ {l : List (Nat × Operand)} {r : List (Nat × List AC)}, Ab.partCells s l = some r → Ab.partCells s' l = some r
  | [], r, e => e
  | (i, x) :: l, r, e => by
    simp only [Ab.partCells] at e ⊢
    split at e
    · rename_i hv
      rw [h.ev hv]; (try simp only)
      split at e
      · rename_i h1 h2; rw [h1, h.partCells h2]; exact e
      · cases e
    · cases e

theorem Le.eBuild (h : Le s s') {T : TypeId} {ps : Array (Nat × Operand)} {r : Res} (e : Ab.eBuild P s T ps = some r) : Ab.eBuild P s' T ps = some r := by
  unfold Ab.eBuild at e ⊢
  split at e
  · (try simp only)
    split at e
    · rename_i h1 h2 h3; rw [h1, h2, h.partCells h3]; exact e
    · cases e
  · cases e

theorem Le.eStoreBox (h : Le s s') {T : TypeId} {ad x : Operand} {r : Res} (e : Ab.eStoreBox P s T ad x = some r) : Ab.eStoreBox P s' T ad x = some r := by
  unfold Ab.eStoreBox at e ⊢
  split at e
  · rename_i h1 h2
    rw [h.ac h1, h.ev h2]; (try simp only)
    split at e
    · rename_i h3 h4 h5; rw [h.box h3, h4, h5]; exact e
    · cases e
  · cases e

theorem Le.absorbOwn (h : Le s s') : ∀ {l : List AC} {r : List Cell × List Nat}, Ab.absorbOwn s l = some r → Ab.absorbOwn s' l = some r
  | [], r, e => e
  | c :: l, r, e => by
    simp only [Ab.absorbOwn] at e ⊢
    split at e
    · cases e
    · rename_i cs ids hl
      rw [h.absorbOwn hl]; (try simp only)
      split at e
      · exact e
      · split at e
        · rename_i ho; rw [h.arr ho]; exact e
        · cases e
      · cases e

theorem absorbOwn_shr (s s' : St) : ∀ {l : List AC} {cs : List Cell}, absorbShr l = some cs → absorbOwn s l = absorbOwn s' l
  | [], cs, e => rfl
  | c :: l, cs, e => by
    simp only [absorbShr] at e
    split at e
    · cases e
    · rename_i cs' hl
      have ih := absorbOwn_shr s s' hl
      simp only [absorbOwn, ih]
      split at e
      · rfl
      · rename_i c1 _
        cases absorbOwn s' l with
        | none => rfl
        | some _ => cases c1 <;> rfl
      · cases e

theorem Le.absorb (h : Le s s') {l : List AC} {r : Bool × List Cell × List Nat} (e : Ab.absorb s l = some r) : Ab.absorb s' l = some r := by
  unfold Ab.absorb at e ⊢
  split at e
  · rename_i ho; rw [h.absorbOwn ho]; exact e
  · rename_i ho
    split at e
    · rename_i hs
      rw [← absorbOwn_shr s s' hs, ho]; (try simp only); exact e
    · cases e

theorem Le.srcElems (h : Le s s') {own : Bool} {sz : Nat} {c : AC} {r : List (List Cell) × List Nat × List Item} (e : Ab.srcElems s own sz c = some r) : Ab.srcElems s' own sz c = some r := by
  unfold Ab.srcElems at e ⊢
  split at e
  · exact e
  · exact e
  · exact e
  · (try simp only)
    split at e
    · rename_i hc; rw [if_pos ⟨h.live hc.1, hc.2⟩]; exact e
    · cases e
  · (try simp only)
    split at e
    · rename_i ho; rw [h.arr ho]; exact e
    · cases e
  · cases e

theorem Le.target (h : Le s s') {sz : Nat} {q : List Orc} {c : AC} {r : Bool × List (List Cell) × List Nat × List Orc} (e : Ab.target s sz q c = some r) : Ab.target s' sz q c = some r := by
  unfold Ab.target at e ⊢
  split at e
  · exact e
  · (try simp only)
    split at e
    · rename_i ho; rw [h.arr ho]; exact e
    · cases e
  · cases e

theorem Le.eAppend (h : Le s s') {args : Array Operand} {tys : Array TypeId} {n : Nat} {q : List Orc} {r : Res × List Item × List Orc} (e : Ab.eAppend P s args tys n q = some r) : Ab.eAppend P s' args tys n q = some r := by
  unfold Ab.eAppend at e ⊢
  split at e
  · (try simp only)
    split at e
    · rename_i h1 h2 h3
      rw [h1, h.ac h2, h.ac h3]; (try simp only)
      split at e
      · rename_i h4 h5
        try rw [h4, h5]
        try simp only
        split at e
        · rename_i hc
          rw [if_pos hc]
          split at e
          · rename_i ht
            rw [h.target ht]; (try simp only)
            split at e
            · rename_i hs; rw [h.srcElems hs]; exact e
            · cases e
          · cases e
        · cases e
      · cases e
    · cases e
  · cases e

theorem Le.eBuildSlice (h : Le s s') {T : TypeId} {len : Nat} {ps : Array (Nat × Operand)} {n : Nat} {r : Res} (e : Ab.eBuildSlice P s T len ps n = some r) : Ab.eBuildSlice P s' T len ps n = some r := by
  unfold Ab.eBuildSlice at e ⊢
  split at e
  · rename_i h1 h2
    rw [h1, h.partCells h2]; (try simp only)
    split at e
    · rename_i h3
      try rw [h3]
      try simp only
      split at e
      · rename_i hc
        rw [if_pos hc]
        split at e
        · rename_i ha; rw [h.absorb ha]; exact e
        · cases e
      · cases e
    · cases e
  · cases e

theorem Le.eMake (h : Le s s') {T : TypeId} {lo co : Operand} {n : Nat} {r : Res × List Item} (e : Ab.eMake P s T lo co n = some r) : Ab.eMake P s' T lo co n = some r := by
  unfold Ab.eMake at e ⊢
  split at e
  · rename_i h1 h2; rw [h1, h.int h2]; exact e
  · cases e

theorem Le.eStoreArr (h : Le s s') {T : TypeId} {ad x : Operand} {q : List Orc} {r : Res × List Item × List Orc} (e : Ab.eStoreArr P s T ad x q = some r) : Ab.eStoreArr P s' T ad x q = some r := by
  unfold Ab.eStoreArr at e ⊢
  split at e
  · rename_i h1 h2
    rw [h.ac h1, h.ev h2]; (try simp only)
    split at e
    · rename_i own sz es l n e0 es9 q' h3 h4 h5 h6
      rw [h.arr h3, h4, h5, h6]; (try simp only)
      cases own with
      | true =>
        (try simp only at e ⊢)
        split at e
        · rename_i ha; rw [h.absorbOwn ha]; exact e
        · cases e
      | false => exact e
    · cases e
  · cases e

theorem Le.lendAC (h : Le s s') {c : AC} {r : Cell × List Nat} (e : Ab.lendAC s c = some r) : Ab.lendAC s' c = some r := by
  unfold Ab.lendAC at e ⊢
  split at e
  · exact e
  · exact e
  · (try simp only)
    split at e
    · rename_i hc; rw [if_pos (h.live hc)]; exact e
    · cases e
  · (try simp only)
    split at e
    · rename_i ho; rw [h.arr ho]; exact e
    · cases e
  · cases e

theorem Le.lendACs (h : Le s s') : ∀ {l : List AC} {r : List AC × List Nat}, Ab.lendACs s l = some r → Ab.lendACs s' l = some r
  | [], r, e => e
  | c :: l, r, e => by
    simp only [Ab.lendACs] at e ⊢
    split at e
    · rename_i h1 h2; rw [h.lendAC h1, h.lendACs h2]; exact e
    · cases e

theorem Le.passCells (h : Le s s') : ∀ {l : List AC} {emb : List (Option Nat)} {r : List (Option Nat) × List Ob × List AC × List Nat}, Ab.passCells s emb l = some r → Ab.passCells s' emb l = some r
  | [], emb, r, e => e
  | c :: l, emb, r, e => by
    simp only [Ab.passCells] at e ⊢
    split at e
    · split at e
      · rename_i ho
        rw [h.arr ho]; (try simp only)
        split at e
        · cases e
        · rename_i hc
          rw [if_neg hc]
          split at e
          · rename_i hp; rw [h.passCells hp]; exact e
          · cases e
      · cases e
    · (try simp only)
      split at e
      · rename_i ho
        rw [h.map ho]; (try simp only)
        split at e
        · cases e
        · rename_i hc
          rw [if_neg hc]
          split at e
          · rename_i hp; rw [h.passCells hp]; exact e
          · cases e
      · cases e
    · (try simp only)
      split at e
      · rename_i hp; rw [h.passCells hp]; exact e
      · cases e
    · (try simp only)
      split at e
      · rename_i hc
        rw [if_pos (h.live hc)]
        split at e
        · rename_i hp; rw [h.passCells hp]; exact e
        · cases e
      · cases e
    · (try simp only)
      split at e
      · rename_i hp; rw [h.passCells hp]; exact e
      · cases e
    · cases e

theorem Le.passAgg (h : Le s s') : ∀ {ms : List (Option (Bool × Nat))} {l : List AC} {emb : List (Option Nat)} {r : List (Option Nat) × List Ob × List AC × List Nat}, Ab.passAgg s emb ms l = some r → Ab.passAgg s' emb ms l = some r
  | [], [], emb, r, e => e
  | [], _ :: _, emb, r, e => by simp [Ab.passAgg] at e
  | _ :: _, [], emb, r, e => by simp [Ab.passAgg] at e
  | m :: ms, c :: l, emb, r, e => by
    simp only [Ab.passAgg] at e ⊢
    split at e
    · (try simp only)
      split at e
      · rename_i hl
        rw [h.lendAC hl]; (try simp only)
        split at e
        · rename_i hp; rw [h.passAgg hp]; exact e
        · cases e
      · cases e
    · (try simp only)
      split at e
      · (try simp only)
        split at e
        · rename_i ho
          rw [h.arr ho]; (try simp only)
          split at e
          · rename_i hc
            rw [if_pos hc]
            split at e
            · rename_i hp; rw [h.passAgg hp]; exact e
            · cases e
          · cases e
        · cases e
      · (try simp only)
        split at e
        · rename_i hp; rw [h.passAgg hp]; exact e
        · cases e
      · cases e

theorem Le.add (h : Le s s') {p : Pass} {m : Mode} {x : SV} {r : Pass} (e : p.add s m x = some r) : p.add s' m x = some r := by
  unfold Pass.add at e ⊢
  split at e
  · split at e
    · (try simp only)
      split at e
      · rename_i hl; rw [h.lendACs hl]; exact e
      · cases e
    · (try simp only)
      split at e
      · rename_i hl; rw [h.lendACs hl]; exact e
      · cases e
  · split at e
    · (try simp only)
      split at e
      · rename_i ho; rw [h.arr ho]; exact e
      · cases e
    · exact e
    · cases e
  · split at e
    · (try simp only)
      split at e
      · rename_i ho
        rw [h.box ho]; (try simp only)
        split at e
        · cases e
        · rename_i hc
          rw [if_neg hc]
          split at e
          · rename_i hp; rw [h.passCells hp]; exact e
          · cases e
      · cases e
    · cases e
  · split at e
    · (try simp only)
      split at e
      · rename_i ho; rw [h.map ho]; exact e
      · cases e
    · cases e
  · split at e
    · (try simp only)
      split at e
      · rename_i hp; rw [h.passAgg hp]; exact e
      · cases e
    · cases e

theorem Le.passAll (h : Le s s') : ∀ {ms : List Mode} {xs : List AV} {p r : Pass}, Ab.passAll s p ms xs = some r → Ab.passAll s' p ms xs = some r
  | [], [], p, r, e => e
  | m :: ms, .sv x :: xs, p, r, e => by
    simp only [Ab.passAll] at e ⊢
    split at e
    · rename_i hp; rw [h.add hp]; exact h.passAll e
    · cases e
  | [], _ :: _, p, r, e => by cases e
  | _ :: _, [], p, r, e => by cases e
  | _ :: _, .tup _ :: _, p, r, e => by cases e

theorem Le.evAll (h : Le s s') : ∀ {l : List Operand} {r : List AV}, Ab.evAll s l = some r → Ab.evAll s' l = some r
  | [], r, e => e
  | x :: l, r, e => by
    simp only [Ab.evAll] at e ⊢
    split at e
    · rename_i h1 h2; rw [h.ev h1, h.evAll h2]; exact e
    · cases e

theorem Le.eCall (h : Le s s') {f : FuncId} {args : Array Operand} {n : Nat} {q : List Orc} {r : Res × List Item × List Orc} (e : Ab.eCall P s f args n q = some r) : Ab.eCall P s' f args n q = some r := by
  unfold Ab.eCall at e ⊢
  split at e
  · (try simp only)
    split at e
    · rename_i hav
      rw [h.evAll hav]; (try simp only)
      split at e
      · rename_i hp; rw [h.passAll hp]; exact e
      · cases e
    · cases e
  · cases e

theorem map_some' {α β : Type} {x y : Option α} {f : α → β} {r : β} (hxy : ∀ a, x = some a → y = some a) (e : x.map f = some r) : y.map f = some r := by
  obtain ⟨a, ha, rfl⟩ := Option.map_eq_some_iff.1 e
  rw [hxy a ha]; rfl

theorem Le.eLookup (h : Le s s') {T : TypeId} {m x : Operand} {ok : Bool} {n : Nat} {q : List Orc} {r : Res × List Item × List Orc} (e : Ab.eLookup P s T m x ok n q = some r) : Ab.eLookup P s' T m x ok n q = some r := by
  unfold Ab.eLookup at e ⊢
  split at e
  · rename_i id hm
    rw [h.ac hm]
    (try simp only)
    split at e
    · rename_i hob hkey hT
      rw [h.map hob, h.lit hkey, hT]
      exact e
    · cases e
  · cases e

theorem Le.eMapUpdate (h : Le s s') {T : TypeId} {m x y : Operand} {q : List Orc} {r : Res × List Item × List Orc} (e : Ab.eMapUpdate P s T m x y q = some r) : Ab.eMapUpdate P s' T m x y q = some r := by
  unfold Ab.eMapUpdate at e ⊢
  split at e
  · rename_i id f' q1 hm
    rw [h.ac hm]
    (try simp only)
    split at e
    · rename_i hob hkey hT hy
      rw [h.map hob, h.lit hkey, hT, h.ac hy]
      (try simp only)
      split at e
      · rename_i hc
        rw [if_pos hc]
        split at e
        · rename_i hab; rw [h.absorbOwn hab]; exact e
        · cases e
      · cases e
    · cases e
  · cases e

theorem Le.eMapDelete (h : Le s s') {args : Array Operand} {tys : Array TypeId} {q : List Orc} {r : Res × List Item × List Orc} (e : Ab.eMapDelete P s args tys q = some r) : Ab.eMapDelete P s' args tys q = some r := by
  unfold Ab.eMapDelete at e ⊢
  split at e
  · (try simp only)
    split at e
    · rename_i hm
      rw [h.ac hm]
      (try simp only)
      split at e
      · rename_i hob hkey hT
        rw [h.map hob, h.lit hkey, hT]
        exact e
      · cases e
    · cases e
  · cases e

theorem Le.eMapNil (h : Le s s') {op : BinOp} {T : TypeId} {x y : Operand} {r : Res} (e : Ab.eMapNil P s op T x y = some r) : Ab.eMapNil P s' op T x y = some r ∧ ∀ (z : TypeId) (o : Oper) (q : List Orc), o.op = .binOp op T x y z → Ab.vop P s' o q = none := by
  have hv : ∀ (c : AC) (u : Value), s'.ac x = some c → s'.lit y = some u → u = .map none → (∀ v, c = .val (.lit v) → v = .map none) → ∀ (z : TypeId) (o : Oper) (q : List Orc), o.op = .binOp op T x y z → Ab.vop P s' o q = none := by
    intro c u hc hu he hcv z o q ho
    subst he
    unfold Ab.vop
    simp only [ho]
    have : s'.lit x = none ∨ s'.lit x = some (.map none) := by
      unfold St.lit
      rw [hc]
      cases c with
      | val c => cases c with
        | lit v => right; rw [hcv v rfl]
        | _ => left; rfl
      | _ => left; rfl
    rcases this with h1 | h1
    · rw [h1]
    · rw [h1, hu]; rfl
  unfold Ab.eMapNil at e ⊢
  split at e
  · (try simp only)
    split at e
    · rename_i hx hy
      refine ⟨?_, hv _ _ (h.ac hx) (h.lit hy) rfl (by simp)⟩
      rw [h.ac hx, h.lit hy]
      (try simp only)
      split at e
      · rename_i hob
        rw [h.map hob]; exact e
      · cases e
    · rename_i hx hy
      refine ⟨?_, hv _ _ (h.ac hx) (h.lit hy) rfl (by simp)⟩
      rw [h.ac hx, h.lit hy]
      exact e
    · cases e
  · cases e

theorem Le.aop (h : Le s s') {o : Oper} {n : Nat} {q : List Orc} {r : Res × List Item × List Orc} (e : Ab.aop P s o n q = some r) : Ab.aop P s' o n q = some r := by
  unfold Ab.aop at e ⊢
  split at e
  · exact e
  · exact map_some' (fun _ ha => h.eBox ha) e
  · exact map_some' (fun _ ha => h.eBuild ha) e
  · exact map_some' (fun _ ha => h.eBuildSlice ha) e
  · exact map_some' (fun _ ha => h.eMake ha) e
  · rename_i T ad x ho
    (try simp only)
    split at e
    · rename_i hs; rw [h.eStoreBox hs]; exact e
    · have hs' : Ab.eStoreBox P s' T ad x = none := by
        unfold Ab.eStoreArr at e
        split at e
        · rename_i h1 h2
          unfold Ab.eStoreBox
          rw [h.ac h1]
        · cases e
      rw [hs']
      exact h.eStoreArr e
  · exact h.eAppend e
  · exact h.eCall e
  · exact h.eMapDelete e
  · exact h.eLookup e
  · exact e
  · exact h.eMapUpdate e
  · exact h.eMapUpdate e
  · rename_i op T x y z ho
    (try simp only)
    split at e
    · rename_i hr; rw [h.vop hr]; exact e
    · cases hr : Ab.eMapNil P s op T x y with
      | none => simp [hr] at e
      | some r' =>
        obtain ⟨h1, h2⟩ := h.eMapNil hr
        rw [hr] at e
        rw [h2 z o q ho, h1]; exact e
  · exact map_some' (fun _ ha => h.vop ha) e

theorem Le.bit (h : Le s s') {t : Nat} {x : Option Bool} (e : s.bit t = some x) : s'.bit t = some x := by
  unfold St.bit at e ⊢
  rcases h.reg t with h1 | h1
  · rw [h1] at e; simp at e
  · rw [h1]; exact e

theorem Le.wanted (h : Le s s') {ops : Array Oper} {o : Oper} {b : Bool} (e : wantedA ops s o = some b) : wantedA ops s' o = some b := by
  unfold wantedA at e ⊢
  split at e
  · exact e
  · (try simp only)
    split at e
    · (try simp only)
      split at e
      · rename_i hb; rw [h.bit hb]; exact e
      · rename_i hb; rw [h.bit hb]; exact e
      · cases e
    · cases e

end
end Go.Proofs.Ytamcedjjlokfhaa.Ab
