/- The abstract machine, part 25: what an operation does with a state of which less is known, it does with every state of which more is known. No condition. -/
import Derived.Test.YtamcedjjlokfhaaAb21
namespace Go.Proofs.Ytamcedjjlokfhaa.Ab
open Go
set_option linter.unusedVariables false

/-- of s is known at most what is known of s' -/
structure Le (s s' : St) : Prop where
  reg : ∀ t, s.reg t = .sv (.agg []) ∨ s'.reg t = s.reg t
  obj : ∀ i, (s.obj i = .free ∨ s.obj i = .dead) ∨ s'.obj i = s.obj i

section
variable {P : Program} {s s' : St}

theorem Le.ev (h : Le s s') {x : Operand} {v : AV} (e : s.ev x = some v) : s'.ev x = some v := by
  cases x with
  | tmp t =>
    simp only [St.ev] at e ⊢
    rcases h.reg t with h1 | h1
    · rw [h1] at e; cases e
    · rw [h1]; exact e
  | _ => exact e

theorem Le.ac (h : Le s s') {x : Operand} {v : AC} (e : s.ac x = some v) : s'.ac x = some v := by
  unfold St.ac at e ⊢
  split at e
  · rename_i c hc; rw [h.ev hc]; exact e
  · cases e

theorem Le.lit (h : Le s s') {x : Operand} {v : Value} (e : s.lit x = some v) : s'.lit x = some v := by
  unfold St.lit at e ⊢
  split at e
  · rename_i c hc; rw [h.ac hc]; exact e
  · cases e

theorem Le.int (h : Le s s') {x : Operand} {v : IntKind × Int} (e : s.int x = some v) : s'.int x = some v := by
  unfold St.int at e ⊢
  split at e
  · rename_i c hc; rw [h.lit hc]; exact e
  · cases e

theorem Le.litS (h : Le s s') {x : Operand} {v : List UInt8} (e : Ab.litS s x = some v) : Ab.litS s' x = some v := by
  unfold Ab.litS at e ⊢
  split at e
  · rename_i c hc; rw [h.lit hc]; exact e
  · cases e

theorem Le.arr (h : Le s s') {i : Nat} {own : Bool} {sz : Nat} {es : List (List Cell)} (e : s.obj i = .arr own sz es) : s'.obj i = .arr own sz es := by
  rcases h.obj i with (h1 | h1) | h1
  · rw [h1] at e; cases e
  · rw [h1] at e; cases e
  · rw [h1]; exact e

theorem Le.box (h : Le s s') {i : Nat} {cs : List AC} (e : s.obj i = .box cs) : s'.obj i = .box cs := by
  rcases h.obj i with (h1 | h1) | h1
  · rw [h1] at e; cases e
  · rw [h1] at e; cases e
  · rw [h1]; exact e

theorem Le.map (h : Le s s') {i : Nat} {nn : Bool} {k : MK} {f : Value → Option Cell} (e : s.obj i = .map nn k f) : s'.obj i = .map nn k f := by
  rcases h.obj i with (h1 | h1) | h1
  · rw [h1] at e; cases e
  · rw [h1] at e; cases e
  · rw [h1]; exact e

theorem Le.live (h : Le s s') {src : Option Nat} (e : liveB s src = true) : liveB s' src = true := by
  unfold liveB at e ⊢
  cases src with
  | none => rfl
  | some id =>
    simp only at e ⊢
    split at e
    · rename_i hb; rw [h.arr hb]
    · rename_i hb; rw [h.map hb]
    · cases e

theorem Le.ptrLive (h : Le s s') {c : AC} (e : Ab.ptrLive s c = true) : Ab.ptrLive s' c = true := by
  unfold Ab.ptrLive at e ⊢
  cases c with
  | ptr id o =>
    simp only at e ⊢
    split at e
    · rename_i hb; rw [h.box hb]
    · cases e
  | eptr id i o =>
    simp only at e ⊢
    split at e
    · rename_i hb; rw [h.arr hb]
    · cases e
  | iptr src cs => exact h.live e
  | _ => cases e

theorem Le.readAt (h : Le s s') {x : AC} {n : Nat} {q : List Orc} {r : List AC × List Item × List Orc} (e : Ab.readAt s x n q = some r) : Ab.readAt s' x n q = some r := by
  unfold Ab.readAt at e ⊢
  cases x with
  | ptr id o =>
    simp only at e ⊢
    split at e
    · rename_i hb; rw [h.box hb]; exact e
    · cases e
  | iptr src cs =>
    simp only at e ⊢
    split at e
    · rename_i hc; rw [if_pos ⟨h.live hc.1, hc.2⟩]; exact e
    · cases e
  | eptr id i o =>
    simp only at e ⊢
    split at e
    · rename_i hb; rw [h.arr hb]; exact e
    · cases e
  | _ => cases e

theorem Le.idxAddr (h : Le s s') {sz : Nat} {n : Int} {q : List Orc} {c : AC} {r : AC × List Item × List Orc} (e : Ab.idxAddr s sz n q c = some r) : Ab.idxAddr s' sz n q c = some r := by
  unfold Ab.idxAddr at e ⊢
  split at e
  · exact e
  · split at e
    · split at e
      · rename_i hc; (try simp only); rw [if_pos ⟨hc.1, h.live hc.2⟩]; exact e
      · cases e
    · cases e
  · split at e
    · rename_i hb; (try simp only); rw [h.arr hb]; exact e
    · cases e
  · cases e

theorem Le.elems (h : Le s s') {c : AC} {r : Option Nat × List (List Cell)} (e : Ab.elems s c = some r) : Ab.elems s' c = some r := by
  unfold Ab.elems at e ⊢
  split at e
  · exact e
  · exact e
  · split at e
    · rename_i hc; (try simp only); rw [if_pos (h.live hc)]; exact e
    · cases e
  · split at e
    · rename_i hb; (try simp only); rw [h.arr hb]; exact e
    · cases e
  · cases e

theorem Le.bound (h : Le s s') {d : Nat} {x : Option Operand} {r : Nat × List Item} (e : Ab.bound s d x = some r) : Ab.bound s' d x = some r := by
  cases x with
  | none => exact e
  | some x =>
    simp only [Ab.bound] at e ⊢
    split at e
    · rename_i hb; rw [h.int hb]; exact e
    · cases e

theorem Le.vSlice (h : Le s s') {T : TypeId} {x : Operand} {lo hi mx : Option Operand} {q : List Orc} {r : AV × List Item × List Orc} (e : Ab.vSlice P s T x lo hi mx q = some r) : Ab.vSlice P s' T x lo hi mx q = some r := by
  unfold Ab.vSlice at e ⊢
  cases mx with
  | some _ => cases e
  | none =>
    simp only at e ⊢
    split at e
    · split at e
      · rename_i hl
        split at e
        · rename_i h1 h2; rw [h.litS hl]; (try simp only); rw [h.bound h1, h.bound h2]; exact e
        · cases e
      · cases e
    · split at e
      · rename_i hc ht
        rw [h.ac hc, ht]; (try simp only)
        split at e
        · rename_i h1 h2
          rw [h.elems h1, h2]; (try simp only)
          split at e
          · rename_i h3 h4; rw [h.bound h3, h.bound h4]; exact e
          · cases e
        · cases e
      · cases e

theorem Le.vBuiltin (h : Le s s') {b : Builtin} {args : Array Operand} {tys : Array TypeId} {q : List Orc} {r : AV × List Item × List Orc} (e : Ab.vBuiltin P s b args tys q = some r) : Ab.vBuiltin P s' b args tys q = some r := by
  unfold Ab.vBuiltin at e ⊢
  split at e
  · (try simp only)
    split at e
    · rename_i h1 h2
      split at e
      · rename_i ht; (try rw [ht]); (try simp only)
        split at e
        · rename_i hl; rw [h.litS hl]; exact e
        · cases e
      · rename_i ht; (try rw [ht]); (try simp only)
        split at e
        · rename_i hc hs
          rw [h.ac hc, hs]; (try simp only)
          obtain ⟨y, hy, rfl⟩ := Option.map_eq_some_iff.1 e
          rw [h.elems hy]; rfl
        · cases e
    · cases e
  · (try simp only)
    split at e
    · rename_i h1
      split at e
      · rename_i h2 h3; rw [h.int h2, h.int h3]; exact e
      · cases e
    · cases e
  · (try simp only)
    split at e
    · rename_i h1
      split at e
      · rename_i h2 h3; rw [h.int h2, h.int h3]; exact e
      · cases e
    · cases e
  · cases e

theorem map_ev (h : Le s s') {α : Type} {x : Operand} {f : AV → α} {r : α} (e : (s.ev x).map f = some r) : (s'.ev x).map f = some r := by
  obtain ⟨y, hy, rfl⟩ := Option.map_eq_some_iff.1 e
  rw [h.ev hy]; rfl

theorem Le.vop (h : Le s s') {o : Oper} {q : List Orc} {r : AV × List Item × List Orc} (e : Ab.vop P s o q = some r) : Ab.vop P s' o q = some r := by
  unfold Ab.vop at e ⊢
  split at e
  · rename_i ho; exact map_ev h e
  · rename_i ho; exact map_ev h e
  · rename_i ho; (try simp only)
    split at e
    · rename_i hc; rw [h.lit hc]; exact map_ev h e
    · rename_i hc; rw [h.lit hc]; exact map_ev h e
    · cases e
  · rename_i ho; (try simp only)
    split at e
    · rename_i h1 h2 h3; rw [h.ac h1, h2, h3]; (try simp only)
      split at e
      · rename_i hr; rw [h.readAt hr]; exact e
      · cases e
    · cases e
  · rename_i ho; (try simp only)
    split at e
    · rename_i hc; rw [h.ac hc]; (try simp only)
      split at e
      · rename_i hp; rw [if_pos (h.ptrLive hp)]; exact e
      · cases e
    · cases e
  · rename_i ho; (try simp only)
    split at e
    · rename_i h1 h2; rw [h.lit h1, h.lit h2]; exact e
    · cases e
  · rename_i ho; (try simp only)
    split at e
    · rename_i h1; rw [h.lit h1]; exact e
    · cases e
  · rename_i ho; (try simp only)
    split at e
    · rename_i h1; rw [h.int h1]; exact e
    · cases e
  · rename_i ho; (try simp only)
    split at e
    · rename_i hT; (try simp only)
      split at e
      · rename_i hc; rw [h.ac hc]; (try simp only)
        split at e
        · rename_i hel; rw [h.elems hel]; exact e
        · cases e
      · cases e
    · rename_i hT; (try simp only)
      split at e
      · rename_i h1 h2 h3; rw [h.int h1, h2, h3]; exact e
      · cases e
  · rename_i ho; (try simp only)
    split at e
    · rename_i h1 h2; rw [h.ac h1, h2]; (try simp only)
      split at e
      · rename_i hc; rw [if_pos ⟨hc.1, h.ptrLive hc.2⟩]; exact e
      · cases e
    · cases e
  · rename_i ho; (try simp only)
    split at e
    · rename_i h1 h2 h3; rw [h.ac h1, h.int h2, h3]; (try simp only)
      split at e
      · rename_i ht; (try rw [ht]); (try simp only)
        obtain ⟨y, hy, rfl⟩ := Option.map_eq_some_iff.1 e
        rw [h.idxAddr hy]; rfl
      · cases e
    · cases e
  · rename_i ho; (try simp only)
    split at e
    · rename_i h1 h2 h3; rw [h1, h.litS h2, h.int h3]; exact e
    · cases e
  · rename_i ho; exact h.vSlice e
  · rename_i ho; (try simp only)
    split at e
    · rename_i h1; rw [h.ev h1]; exact e
    · cases e
  · rename_i ho; exact h.vBuiltin e
  · cases e

end
end Go.Proofs.Ytamcedjjlokfhaa.Ab
