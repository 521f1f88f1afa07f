/- The abstract machine, part 40: the maps that the program uses: numbers or texts to numbers, texts to lists of numbers. No condition. -/
import Derived.Test.YtamcedjjlokfhaaAb24
namespace Go.Proofs.Ytamcedjjlokfhaa.Ab
open Go Go.MapKept
set_option linter.unusedVariables false

def kI : MK := ⟨.int .i64, some (.int .i64 0)⟩
def kO : MK := ⟨.int .i64, none⟩
def kS : MK := ⟨.string, some (.int .i64 0)⟩
def kL : MK := ⟨.string, some (.slice none 0 0)⟩
def keyI : Value → Int
  | .int _ n => n
  | _ => 0
def keyS : Value → ByteArray
  | .string s => s
  | _ => ⟨#[]⟩
def mI (g : Int → Int) : Value → Option Cell := fun v => some (cI (g (keyI v)))
def mO (g : Int → Option Int) : Value → Option Cell := fun v => (g (keyI v)).map cI
def mS (g : ByteArray → Int) : Value → Option Cell := fun v => some (cI (g (keyS v)))
def mL (g : ByteArray → List Int) : Value → Option Cell := fun v => some (.list ((g (keyS v)).map intC))
/-- the list at one key has been taken out -/
def mLt (g : ByteArray → List Int) (s : ByteArray) : Value → Option Cell := fun v => match decide (keyS v = s) with | true => some .any | false => some (.list ((g (keyS v)).map intC))
def zI : Int → Int := fun _ => 0
def zO : Int → Option Int := fun _ => none
def zS : ByteArray → Int := fun _ => 0
def zL : ByteArray → List Int := fun _ => []
def upd1 {α β : Type} [DecidableEq α] (g : α → β) (n : α) (x : β) : α → β := fun m => if m = n then x else g m
theorem upd1_same {α β : Type} [DecidableEq α] (g : α → β) (n : α) (x : β) : upd1 g n x n = x := if_pos rfl
theorem upd1_ne {α β : Type} [DecidableEq α] (g : α → β) {n m : α} (x : β) (h : m ≠ n) : upd1 g n x m = g m := if_neg h
theorem key_int {k : Value} {n : Int} (h : IsKey (.int .i64) k) (hn : k ≠ .int .i64 n) : keyI k ≠ n := by
  cases k <;> simp_all [IsKey, keyI]
theorem key_str {k : Value} {s : ByteArray} (h : IsKey .string k) (hn : k ≠ .string s) : keyS k ≠ s := by
  cases k <;> simp_all [IsKey, keyS]
theorem look_mI {z : Value} {g : Int → Int} {n : Int} : LookAt z (mI g) (.int .i64 n) (cI (g n)) := .inl rfl
theorem look_mS {z : Value} {g : ByteArray → Int} {s : ByteArray} : LookAt z (mS g) (.string s) (cI (g s)) := .inl rfl
theorem look_mL {z : Value} {g : ByteArray → List Int} {s : ByteArray} : LookAt z (mL g) (.string s) (.list ((g s).map intC)) := .inl rfl
theorem look_mO {g : Int → Option Int} {n : Int} : (mO g (.int .i64 n) = some (cI ((g n).getD 0)) ∧ (g n).isSome = true) ∨ (mO g (.int .i64 n) = none ∧ cI ((g n).getD 0) = normLit (.int .i64 0) ∧ (g n).isSome = false) := by
  show ((g n).map cI = _ ∧ _) ∨ ((g n).map cI = _ ∧ _)
  cases g n with
  | none => exact .inr ⟨rfl, rfl, rfl⟩
  | some x => exact .inl ⟨rfl, rfl⟩
theorem look_mO1 {g : Int → Option Int} {n : Int} : LookAt (.int .i64 0) (mO g) (.int .i64 n) (cI ((g n).getD 0)) := by
  show (g n).map cI = _ ∨ ((g n).map cI = _ ∧ _)
  cases g n with
  | none => exact .inr ⟨rfl, rfl⟩
  | some x => exact .inl rfl
theorem upd_mI {g : Int → Int} {n x : Int} : UpdF (.int .i64) (mI g) (mI (upd1 g n x)) (.int .i64 n) (some (cI x)) := by
  refine ⟨?_, fun k hk hn => ?_⟩
  · simp only [mI, keyI, upd1_same]
  · simp only [mI, upd1_ne g x (key_int hk hn)]
theorem upd_mO {g : Int → Option Int} {n x : Int} : UpdF (.int .i64) (mO g) (mO (upd1 g n (some x))) (.int .i64 n) (some (cI x)) := by
  refine ⟨?_, fun k hk hn => ?_⟩
  · simp only [mO, keyI, upd1_same, Option.map_some]
  · simp only [mO, upd1_ne g (some x) (key_int hk hn)]
theorem del_mO {g : Int → Option Int} {n : Int} : UpdF (.int .i64) (mO g) (mO (upd1 g n none)) (.int .i64 n) none := by
  refine ⟨?_, fun k hk hn => ?_⟩
  · simp only [mO, keyI, upd1_same, Option.map_none]
  · simp only [mO, upd1_ne g none (key_int hk hn)]
theorem upd_mS {g : ByteArray → Int} {s : ByteArray} {x : Int} : UpdF .string (mS g) (mS (upd1 g s x)) (.string s) (some (cI x)) := by
  refine ⟨?_, fun k hk hn => ?_⟩
  · simp only [mS, keyS, upd1_same]
  · simp only [mS, upd1_ne g x (key_str hk hn)]
theorem take_mL {g : ByteArray → List Int} {s : ByteArray} : UpdF .string (mL g) (mLt g s) (.string s) (some .any) := by
  refine ⟨?_, fun k hk hn => ?_⟩
  · simp [mLt, keyS]
  · simp only [mL, mLt, decide_eq_false (key_str hk hn)]
theorem upd_mL {g : ByteArray → List Int} {s : ByteArray} {L : List Int} {es : List (List Cell)} (h : es = L.map intC) : UpdF .string (mLt g s) (mL (upd1 g s L)) (.string s) (some (.list es)) := by
  subst h
  refine ⟨?_, fun k hk hn => ?_⟩
  · simp only [mL, keyS, upd1_same]
  · simp only [mL, mLt, decide_eq_false (key_str hk hn), upd1_ne g L (key_str hk hn)]
end Go.Proofs.Ytamcedjjlokfhaa.Ab
