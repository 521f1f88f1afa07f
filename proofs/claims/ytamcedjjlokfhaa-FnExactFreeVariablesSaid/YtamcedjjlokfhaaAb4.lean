/- The abstract machine, part 4: the value operations, run and proved sound. No condition. -/
import Derived.Test.YtamcedjjlokfhaaAb3
import Derived.Laws.Strings
import Derived.Laws.Small
import Derived.Laws.Strings2
import Derived.Laws.Concat
import Derived.Laws.Closers25b
import Derived.Laws.Slices
import Derived.Laws.Tables
import Derived.Great.FillDense
namespace Go.Proofs.Ytamcedjjlokfhaa.Ab
open Go

abbrev bs (l : List UInt8) : Value := .string ⟨l.toArray⟩

def rng (k : IntKind) (n : Int) : Prop := k.min ≤ n ∧ n ≤ k.max

theorem wrap_rng {k : IntKind} {n : Int} (h : rng k n) : k.wrap n = n := by
  obtain ⟨h1, h2⟩ := h
  cases k <;> simp only [IntKind.min, IntKind.max, IntKind.signed, IntKind.bits, IntKind.wrap] at * <;> simp at * <;> first | omega | (split <;> omega)

theorem rng_i64 {n : Int} : rng .i64 n ↔ -9223372036854775808 ≤ n ∧ n ≤ 9223372036854775807 := by
  simp [rng, IntKind.min, IntKind.max, IntKind.signed, IntKind.bits]

def bopInt (op : BinOp) (k : IntKind) (a b : Int) : Option (Value × List Item) :=
  match op with
  | .add => some (.int k (a + b), [.obl (rng k (a + b))])
  | .sub => some (.int k (a - b), [.obl (rng k (a - b))])
  | .mul => some (.int k (a * b), [.obl (rng k (a * b))])
  | .quo => some (.int k (a.tdiv b), [.obl (b ≠ 0), .obl (rng k (a.tdiv b))])
  | .rem => some (.int k (a.tmod b), [.obl (b ≠ 0)])
  | .eql => some (.bool (decide (a = b)), [])
  | .neq => some (.bool (decide (a ≠ b)), [])
  | .lss => some (.bool (decide (a < b)), [])
  | .leq => some (.bool (decide (a ≤ b)), [])
  | .gtr => some (.bool (decide (b < a)), [])
  | .geq => some (.bool (decide (b ≤ a)), [])
  | _ => none

def bopStr (op : BinOp) (a b : List UInt8) : Option (Value × List Item) :=
  match op with
  | .add => some (bs (a ++ b), [.obl (a.length + b.length ≤ maxLen)])
  | .eql => some (.bool (decide (a = b)), [])
  | .neq => some (.bool (decide (a ≠ b)), [])
  | _ => none

def bopBool (op : BinOp) (a b : Bool) : Option (Value × List Item) :=
  match op with
  | .eql => some (.bool (decide (a = b)), [])
  | .neq => some (.bool (decide (a ≠ b)), [])
  | _ => none

def isBool (P : Program) (T : TypeId) : Bool := match P.underlying T with | some .bool => true | _ => false

def bop (P : Program) (T : TypeId) (op : BinOp) (x y : Value) : Option (Value × List Item) :=
  match x with
  | .int k a => match y with | .int k' b => if k = k' then bopInt op k a b else none | _ => none
  | .string a => match y with | .string b => bopStr op a.data.toList b.data.toList | _ => none
  | .bool a => match y with | .bool b => if isBool P T then bopBool op a b else none | _ => none
  | _ => none

def isEq : BinOp → Bool | .eql | .neq => true | _ => false

theorem eqGuard_run {P : Program} {w : World} {op : BinOp} {T : TypeId} {xo yo : Operand} {x y : Value} (hx : ∀ t u, x ≠ .iface t u) (hn : x ≠ .nilIface) (ha : ∀ c, x ≠ .agg c) :
    (eqGuard op T xo yo x y).run P w = .ok () w := by
  cases x <;> first | exact (hn rfl).elim | exact (ha _ rfl).elim | exact (hx _ _ rfl).elim | (cases op <;> cases y <;> simp [eqGuard])

theorem bytes_eq (a : ByteArray) : a = ⟨a.data.toList.toArray⟩ := by cases a; rfl

theorem bop_sound {P : Program} {T : TypeId} {op : BinOp} {x y v : Value} {it : List Item} {K : Prop} (e : bop P T op x y = some (v, it)) (vc : VC it K) :
    (∀ (w : World) (xo yo : Operand), (do eqGuard op T xo yo x y; binOp op T x y : Sem Value).run P w = .ok v w) ∧ litOK v ∧ K := by
  unfold bop at e
  split at e
  · rename_i k a
    split at e
    · rename_i k' b
      split at e
      · rename_i hk
        subst hk
        have hg : ∀ (w : World) (T : TypeId) (xo yo : Operand), (eqGuard op T xo yo (.int k a) (.int k b)).run P w = .ok () w := fun w T xo yo => eqGuard_run (by simp) (by simp) (by simp)
        cases op <;> simp only [bopInt, Option.some.injEq, Prod.mk.injEq, reduceCtorEq] at e <;> obtain ⟨rfl, rfl⟩ := e <;> simp only [VC] at vc
        case add => exact ⟨fun w xo yo => by simp [hg, binOp, Op.intArith, wrap_rng vc.1], trivial, vc.2⟩
        case sub => exact ⟨fun w xo yo => by simp [hg, binOp, Op.intArith, wrap_rng vc.1], trivial, vc.2⟩
        case mul => exact ⟨fun w xo yo => by simp [hg, binOp, Op.intArith, wrap_rng vc.1], trivial, vc.2⟩
        case quo => exact ⟨fun w xo yo => by simp [hg, binOp, Op.intDiv, wrap_rng vc.2.1, vc.1], trivial, vc.2.2⟩
        case rem => exact ⟨fun w xo yo => by simp [hg, binOp, Op.intDiv, vc.1], trivial, vc.2⟩
        case eql => exact ⟨fun w xo yo => by simp [hg, binOp, Op.intCmp]; rfl, trivial, vc⟩
        case neq => exact ⟨fun w xo yo => by simp [hg, binOp, Op.intCmp, bne]; rfl, trivial, vc⟩
        case lss => exact ⟨fun w xo yo => by simp [hg, binOp, Op.intCmp], trivial, vc⟩
        case leq => exact ⟨fun w xo yo => by simp [hg, binOp, Op.intCmp], trivial, vc⟩
        case gtr => exact ⟨fun w xo yo => by simp [hg, binOp, Op.intCmp], trivial, vc⟩
        case geq => exact ⟨fun w xo yo => by simp [hg, binOp, Op.intCmp], trivial, vc⟩
      · cases e
    · cases e
  · rename_i a
    split at e
    · rename_i b
      have hg : ∀ (w : World) (T : TypeId) (xo yo : Operand), (eqGuard op T xo yo (.string a) (.string b)).run P w = .ok () w := fun w T xo yo => eqGuard_run (by simp) (by simp) (by simp)
      cases op <;> simp only [bopStr, Option.some.injEq, Prod.mk.injEq, reduceCtorEq] at e <;> obtain ⟨rfl, rfl⟩ := e <;> simp only [VC] at vc
      case add =>
        have h0 : a.data.toList.length + b.data.toList.length ≤ maxLen := vc.1
        rw [Array.length_toList, Array.length_toList] at h0
        have hl : a.size + b.size ≤ 9223372036854775807 := h0
        refine ⟨fun w xo yo => ?_, ?_, vc.2⟩
        · simp only [Sem.run_bind, hg, Result.andThen_ok, binOp_string_add, run_string_add_sum w a b hl]
          conv => lhs; rw [bytes_eq a, bytes_eq b, ByteArray.mk_append_mk]
        · show (a.data.toList ++ b.data.toList).toArray.size ≤ maxLen
          rw [List.size_toArray, List.length_append]; exact vc.1
      case eql =>
        refine ⟨fun w xo yo => ?_, trivial, vc⟩
        simp only [Sem.run_bind, hg, Result.andThen_ok, binOp_string_eql, Sem.run_pure, ByteArray.toList_eq]
        congr 2
        by_cases h : a.data.toList = b.data.toList
        · rw [h]; simp
        · rw [decide_eq_false h]; exact beq_eq_false_iff_ne.2 h
      case neq =>
        refine ⟨fun w xo yo => ?_, trivial, vc⟩
        simp only [Sem.run_bind, hg, Result.andThen_ok, binOp_string_neq, Sem.run_pure, ByteArray.toList_eq]
        congr 2
        by_cases h : a.data.toList = b.data.toList
        · rw [h]; simp
        · rw [beq_eq_false_iff_ne.2 h, decide_eq_true h]; rfl
    · cases e
  · rename_i a
    split at e
    · rename_i b
      split at e
      · rename_i hT
        have hT' : P.underlying T = some .bool := by unfold isBool at hT; split at hT <;> simp_all
        have hg : ∀ (w : World) (xo yo : Operand), (eqGuard op T xo yo (.bool a) (.bool b)).run P w = .ok () w := fun w xo yo => eqGuard_run (by simp) (by simp) (by simp)
        cases op <;> simp only [bopBool, Option.some.injEq, Prod.mk.injEq, reduceCtorEq] at e <;> obtain ⟨rfl, rfl⟩ := e <;> simp only [VC] at vc
        case eql => exact ⟨fun w xo yo => by simp [hg, binOp, run_equal_bool _ _ _ _ hT']; rfl, trivial, vc⟩
        case neq => exact ⟨fun w xo yo => by simp [hg, binOp, run_equal_bool _ _ _ _ hT']; cases a <;> cases b <;> rfl, trivial, vc⟩
      · cases e
    · cases e
  · cases e

end Go.Proofs.Ytamcedjjlokfhaa.Ab
