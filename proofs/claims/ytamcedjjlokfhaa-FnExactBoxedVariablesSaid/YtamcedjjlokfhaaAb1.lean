/- The abstract machine, part 1: pure cells, how a concrete value reads as one (Rd), ownership (OwnC), abstract states and their relation to worlds. No condition. -/
import Derived.WalkKit
import Derived.MapKept
import Derived.Carry
import Derived.Laws.AppendOwn
import Derived.Laws.MakeOwn
import Derived.Laws.OwnMore
namespace Go.Proofs.Ytamcedjjlokfhaa.Ab
open Go

/-- a pure one-cell value: flat, or a slice with its elements (each a list of cells) -/
inductive Cell where
  | lit (v : Value)
  | list (es : List (List Cell))
  | any
instance : Inhabited Cell := ⟨.lit (.bool false)⟩

def normLit : Value → Cell
  | .slice none 0 0 => .list []
  | v => .lit v

def litOK : Value → Prop
  | .string s => s.size ≤ maxLen
  | .agg _ | .tuple _ => False
  | _ => True

theorem litOK.one {v : Value} (h : litOK v) : v.oneCell' = true := by
  cases v <;> first | rfl | exact h.elim

def All2 {α β : Type} (R : α → β → Prop) : List α → List β → Prop
  | [], [] => True
  | a :: as, b :: bs => R a b ∧ All2 R as bs
  | _, _ => False

theorem All2.length {α β : Type} {R : α → β → Prop} : ∀ {as : List α} {bs : List β}, All2 R as bs → as.length = bs.length
  | [], [], _ => rfl
  | _ :: _, _ :: _, h => by simp [All2.length h.2]
  | [], _ :: _, h => h.elim
  | _ :: _, [], h => h.elim

theorem All2.imp {α β : Type} {R S : α → β → Prop} (hi : ∀ a b, R a b → S a b) : ∀ {as : List α} {bs : List β}, All2 R as bs → All2 S as bs
  | [], [], _ => trivial
  | _ :: _, _ :: _, h => ⟨hi _ _ h.1, h.2.imp hi⟩
  | [], _ :: _, h => h.elim
  | _ :: _, [], h => h.elim

theorem All2.get {α β : Type} {R : α → β → Prop} : ∀ {as : List α} {bs : List β}, All2 R as bs → ∀ {i : Nat} {a : α} {b : β}, as[i]? = some a → bs[i]? = some b → R a b
  | [], [], _, i, a, b, ha, _ => by simp at ha
  | x :: as, y :: bs, h, 0, a, b, ha, hb => by simp at ha hb; subst ha; subst hb; exact h.1
  | x :: as, y :: bs, h, i + 1, a, b, ha, hb => by simp at ha hb; exact h.2.get ha hb
  | [], _ :: _, h, _, _, _, _, _ => h.elim
  | _ :: _, [], h, _, _, _, _, _ => h.elim

theorem All2.get_left {α β : Type} {R : α → β → Prop} {as : List α} {bs : List β} (h : All2 R as bs) {i : Nat} {a : α} (ha : as[i]? = some a) : ∃ b, bs[i]? = some b ∧ R a b := by
  have hl : i < bs.length := by rw [← h.length]; exact (List.getElem?_eq_some_iff.1 ha).1
  exact ⟨bs[i], List.getElem?_eq_getElem hl, h.get ha (List.getElem?_eq_getElem hl)⟩

theorem All2.of_get {α β : Type} {R : α → β → Prop} : ∀ {as : List α} {bs : List β}, as.length = bs.length → (∀ (i : Nat) (a : α) (b : β), as[i]? = some a → bs[i]? = some b → R a b) → All2 R as bs
  | [], [], _, _ => trivial
  | a :: as, b :: bs, hl, h => ⟨h 0 a b rfl rfl, All2.of_get (by simpa using hl) fun i x y hx hy => h (i + 1) x y (by simpa using hx) (by simpa using hy)⟩
  | [], _ :: _, hl, _ => by simp at hl
  | _ :: _, [], hl, _ => by simp at hl

theorem All2.append {α β : Type} {R : α → β → Prop} : ∀ {as : List α} {bs : List β} {cs : List α} {ds : List β}, All2 R as bs → All2 R cs ds → All2 R (as ++ cs) (bs ++ ds)
  | [], [], _, _, _, h => h
  | _ :: _, _ :: _, _, _, h, k => ⟨h.1, h.2.append k⟩
  | [], _ :: _, _, _, h, _ => h.elim
  | _ :: _, [], _, _, h, _ => h.elim

theorem All2.take {α β : Type} {R : α → β → Prop} : ∀ {as : List α} {bs : List β} (n : Nat), All2 R as bs → All2 R (as.take n) (bs.take n)
  | [], [], n, _ => by simp [All2]
  | _ :: _, _ :: _, 0, _ => trivial
  | _ :: _, _ :: _, n + 1, h => ⟨h.1, h.2.take n⟩
  | [], _ :: _, _, h => h.elim
  | _ :: _, [], _, h => h.elim

theorem All2.drop {α β : Type} {R : α → β → Prop} : ∀ {as : List α} {bs : List β} (n : Nat), All2 R as bs → All2 R (as.drop n) (bs.drop n)
  | [], [], n, _ => by simp [All2]
  | _ :: _, _ :: _, 0, h => h
  | _ :: _, _ :: _, n + 1, h => h.2.drop n
  | [], _ :: _, _, h => h.elim
  | _ :: _, [], _, h => h.elim

/-- reading: value v is cell c, through blocks of G alone -/
inductive Rd (w : World) (G : Nat → Prop) : Value → Cell → Prop
  | lit {v : Value} (h : litOK v) : Rd w G v (.lit v)
  | nil {a : Option Addr} {cap : Nat} : Rd w G (.slice a 0 cap) (.list [])
  | any {v : Value} (h : v.oneCell' = true) : Rd w G v .any
  | slice {b off cap sz : Nat} {es : List (List Cell)} {xs : List Value} (hG : G b) (hc : es.length ≤ cap) (hm : cap ≤ maxLen)
      (hsz : ∀ e ∈ es, e.length = sz) (hl : xs.length = es.flatten.length)
      (hx : ∀ (j : Nat) (u : Value), xs[j]? = some u → w.cell? ⟨b, off + j, none⟩ = some u)
      (hr : ∀ (j : Nat) (u : Value) (c : Cell), xs[j]? = some u → es.flatten[j]? = some c → Rd w G u c) : Rd w G (.slice (some ⟨b, off, none⟩) es.length cap) (.list es)

theorem cell_of_heap {w w' : World} {b o : Nat} (h : w'.heap[b]? = w.heap[b]?) : w'.cell? ⟨b, o, none⟩ = w.cell? ⟨b, o, none⟩ := World.cell?_of_block (w := w) (a := ⟨b, o, none⟩) h

theorem Rd.mono {w w' : World} {G G' : Nat → Prop} (hw : ∀ b, G b → w'.heap[b]? = w.heap[b]?) (hG : ∀ b, G b → G' b) {v : Value} {c : Cell} (h : Rd w G v c) : Rd w' G' v c := by
  induction h with
  | lit h => exact .lit h
  | nil => exact .nil
  | any h => exact .any h
  | slice hb hc hm hsz hl hx _ ih => exact .slice (hG _ hb) hc hm hsz hl (fun j u hu => (cell_of_heap (hw _ hb)).trans (hx j u hu)) ih

theorem Rd.lit_inv {w : World} {G : Nat → Prop} {v u : Value} (h : Rd w G v (.lit u)) : v = u ∧ litOK u := by cases h; exact ⟨rfl, ‹_›⟩

theorem Rd.one {w : World} {G : Nat → Prop} {v : Value} {c : Cell} (h : Rd w G v c) : v.oneCell' = true := by
  cases h with
  | lit h => exact h.one
  | nil => rfl
  | any h => exact h
  | slice => rfl

/-- an empty array has no room to spare -/
def cap0 (v : Value) (es : List (List Cell)) : Prop := es = [] → ∃ a, v = .slice a 0 0

/-- ownership: value v is cell c, its slices lie each in a block of its own, all of F -/
inductive OwnC (w : World) : (Nat → Prop) → Value → Cell → Prop
  | lit {F : Nat → Prop} {v : Value} (h : litOK v) : OwnC w F v (.lit v)
  | any {F : Nat → Prop} {v : Value} (h : v.oneCell' = true) : OwnC w F v .any
  | arr {F : Nat → Prop} {v : Value} {es : List (List Cell)} {e : TypeId} {sz : Nat} {xs : List Value} {Fs : Nat → Nat → Prop}
      (h : w.ownsRow 0 e sz v es.length xs) (hsz : ∀ x ∈ es, x.length = sz)
      (hb : ∀ b, v.ownBlock = some b → F b) (sub : ∀ j b, Fs j b → F b) (nb : ∀ j b, v.ownBlock = some b → ¬ Fs j b)
      (dj : ∀ j j' b, j ≠ j' → Fs j b → ¬ Fs j' b)
      (hc : ∀ (j : Nat) (u : Value) (c : Cell), xs[j]? = some u → es.flatten[j]? = some c → OwnC w (Fs j) u c) (h0 : cap0 v es) : OwnC w F v (.list es)

theorem ownsRow_heap {w w' : World} {e : TypeId} {sz n : Nat} {v : Value} {xs : List Value} (hw : ∀ b, v.ownBlock = some b → w'.heap[b]? = w.heap[b]?)
    (h : w.ownsRow 0 e sz v n xs) : w'.ownsRow 0 e sz v n xs := by
  refine ⟨h.1, ?_⟩
  rcases h.2 with hn | ⟨g, cap, cur, rfl, hb, hg, rest⟩
  · exact .inl hn
  · exact .inr ⟨g, cap, cur, rfl, hb, by rw [hw g rfl]; exact hg, rest⟩

theorem OwnC.mono {w w' : World} {F : Nat → Prop} {v : Value} {c : Cell} (h : OwnC w F v c) (hw : ∀ b, F b → w'.heap[b]? = w.heap[b]?) : OwnC w' F v c := by
  induction h with
  | lit h => exact .lit h
  | any h => exact .any h
  | arr h hsz hb sub nb dj _ h0 ih => exact .arr (ownsRow_heap (fun b e => hw b (hb b e)) h) hsz hb sub nb dj (fun j u c hu hc => ih j u c hu hc fun b hb' => hw b (sub j b hb')) h0

theorem OwnC.wide {w : World} {F F' : Nat → Prop} {v : Value} {c : Cell} (h : OwnC w F v c) (hF : ∀ b, F b → F' b) : OwnC w F' v c := by
  cases h with
  | lit h => exact .lit h
  | any h => exact .any h
  | arr h hsz hb sub nb dj hc h0 => exact .arr h hsz (fun b e => hF b (hb b e)) (fun j b k => hF b (sub j b k)) nb dj hc h0

theorem OwnC.one {w : World} {F : Nat → Prop} {v : Value} {c : Cell} (h : OwnC w F v c) : v.oneCell' = true := by
  cases h with
  | lit h => exact h.one
  | any h => exact h
  | arr h => rcases h.2 with ⟨rfl, _⟩ | ⟨g, cap, cur, rfl, _⟩ <;> rfl

theorem flatten_length {α : Type} {sz : Nat} : ∀ {es : List (List α)}, (∀ e ∈ es, e.length = sz) → es.flatten.length = es.length * sz
  | [], _ => by simp
  | e :: es, h => by
    have := flatten_length (es := es) fun x hx => h x (List.mem_cons_of_mem _ hx)
    simp only [List.flatten_cons, List.length_append, List.length_cons, this, h e List.mem_cons_self]
    rw [Nat.add_mul]; omega

/-- an owned row as a reading -/
theorem rd_of_row {w : World} {G : Nat → Prop} {e : TypeId} {sz : Nat} {v : Value} {es : List (List Cell)} {xs : List Value}
    (h : w.ownsRow 0 e sz v es.length xs) (hsz : ∀ x ∈ es, x.length = sz) (hb : ∀ b, v.ownBlock = some b → G b)
    (hc : ∀ (j : Nat) (u : Value) (c : Cell), xs[j]? = some u → es.flatten[j]? = some c → Rd w G u c) : Rd w G v (.list es) := by
  have hl : xs.length = es.flatten.length := by rw [h.1, flatten_length hsz]
  have hcells := fun g hg => World.ownsRow.cells (g := g) h hg
  rcases h.2 with ⟨rfl, hn⟩ | ⟨g, cap, cur, rfl, _, hg, hle, hm, _, _⟩
  · rw [List.length_eq_zero_iff] at hn; subst hn; exact .nil
  · refine .slice (hb g rfl) hle hm hsz hl (fun j u hu => ?_) hc
    have := hcells g rfl j u hu
    have hadd : (⟨g, 0, none⟩ : Addr).add j = ⟨g, 0 + j, none⟩ := by unfold Addr.add; split <;> simp_all
    rwa [hadd] at this

theorem OwnC.toRd {w : World} {F G : Nat → Prop} {v : Value} {c : Cell} (h : OwnC w F v c) (hF : ∀ b, F b → G b) : Rd w G v c := by
  induction h with
  | lit h => exact .lit h
  | any h => exact .any h
  | arr h hsz hb sub nb dj _ _ ih => exact rd_of_row h hsz (fun b e => hF b (hb b e)) fun j u c hu hc => ih j u c hu hc fun b hb' => hF b (sub j b hb')

/-! ### abstract values and states -/

inductive AC where
  | top
  | val (c : Cell)
  | ref (id : Nat)
  | bor (id : Nat) (c : Cell)
  | ptr (id off : Nat)
  | eptr (id i off : Nat)
  | iptr (src : Option Nat) (cs : List Cell)
  | sub (id i p : Nat)
  | mref (id : Nat)

inductive SV where
  | one (c : AC)
  | agg (cs : List AC)

inductive AV where
  | sv (s : SV)
  | tup (vs : List SV)

/-- the kind of a map: its keys' type; the value that stands for what is absent, where absence is not told apart from it -/
structure MK where
  d : TypeDesc
  z : Option Value

inductive Ob where
  | free | dead
  | box (cs : List AC)
  | arr (own : Bool) (sz : Nat) (es : List (List Cell))
  | map (nn : Bool) (k : MK) (f : Value → Option Cell)

structure St where
  regs : List AV
  objs : List Ob
  m : Nat

def St.reg (s : St) (t : Nat) : AV := s.regs.getD t (.sv (.one .top))
def St.obj (s : St) (i : Nat) : Ob := s.objs.getD i .free

structure Interp where
  G : Nat → Prop
  blk : Nat → Nat
  sl : Nat → Value
  fp : Nat → Nat → Prop

/-- the blocks through which a borrowed cell reads -/
def rdSet (ι : Interp) : Option Nat → Nat → Prop
  | none, b => ι.G b
  | some id, b => ι.G b ∨ ι.fp id b

def notFree (ob : Nat → Ob) (id : Nat) : Prop := match ob id with | .free => False | _ => True

def Ob.reads : Ob → Prop
  | .arr .. | .map .. => True
  | _ => False

def live (ob : Nat → Ob) : Option Nat → Prop
  | none => True
  | some id => (ob id).reads

/-- a map's value: the nil map, or a map in its block -/
def mapV (nn : Bool) (b : Nat) : Value := .map (match nn with | true => none | false => some b)

def ACRel (w : World) (ι : Interp) (ob : Nat → Ob) : AC → Value → Prop
  | .top, _ => True
  | .val c, v => Rd w ι.G v c
  | .ref id, v => notFree ob id ∧ ∀ own sz es, ob id = .arr own sz es → v = ι.sl id
  | .bor id c, v => notFree ob id ∧ (live ob (some id) → Rd w (rdSet ι (some id)) v c)
  | .ptr id off, v => notFree ob id ∧ ∀ cs, ob id = .box cs → v = .pointer (some ⟨ι.blk id, off, none⟩)
  | .eptr id i off, v => notFree ob id ∧ ∀ own sz es, ob id = .arr own sz es → ∃ b, (ι.sl id).ownBlock = some b ∧ v = .pointer (some ⟨b, i * sz + off, none⟩)
  | .iptr src cs, v => (∀ id, src = some id → notFree ob id) ∧ (live ob src →
      ∃ b o xs, v = .pointer (some ⟨b, o, none⟩) ∧ rdSet ι src b ∧ (∀ (j : Nat) (u : Value), xs[j]? = some u → w.cell? ⟨b, o + j, none⟩ = some u) ∧ All2 (Rd w (rdSet ι src)) xs cs)
  | .sub id i p, v => notFree ob id ∧ ∀ own sz es, ob id = .arr own sz es → ∃ b, (ι.sl id).ownBlock = some b ∧ rdSet ι (some id) b ∧ w.cell? ⟨b, i * sz + p, none⟩ = some v
  | .mref id, v => notFree ob id ∧ ∀ nn k f, ob id = .map nn k f → v = mapV nn (ι.blk id)

def CRel (w : World) (ι : Interp) (ob : Nat → Ob) (c : AC) (v : Value) : Prop := ACRel w ι ob c v ∧ v.oneCell' = true

def SVRel (w : World) (ι : Interp) (ob : Nat → Ob) : SV → Value → Prop
  | .one c, v => ACRel w ι ob c v ∧ (c ≠ .top → v.oneCell' = true)
  | .agg cs, v => ∃ arr : Array Value, v = .agg arr ∧ All2 (CRel w ι ob) cs arr.toList

def AVRel (w : World) (ι : Interp) (ob : Nat → Ob) : AV → Value → Prop
  | .sv s, v => SVRel w ι ob s v
  | .tup vs, v => ∃ arr : Array Value, v = .tuple arr ∧ All2 (SVRel w ι ob) vs arr.toList

end Go.Proofs.Ytamcedjjlokfhaa.Ab
