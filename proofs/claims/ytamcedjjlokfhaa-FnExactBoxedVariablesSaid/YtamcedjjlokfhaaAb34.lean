/- The abstract machine, part 34: states written out before they are used (so that the kernel meets small terms); it changes nothing. No condition. -/
import Derived.Test.YtamcedjjlokfhaaAb19
namespace Go.Proofs.Ytamcedjjlokfhaa.Ab
open Go
set_option linter.unusedVariables false

def forceL {α : Type} (f : α → (α → Prop) → Prop) : List α → (List α → Prop) → Prop
  | [], k => k []
  | a :: l, k => f a fun a => forceL f l fun l => k (a :: l)

theorem forceL_eq {α : Type} {f : α → (α → Prop) → Prop} (hf : ∀ a k, f a k = k a) : ∀ (l : List α) (k : List α → Prop), forceL f l k = k l
  | [], k => rfl
  | a :: l, k => by rw [forceL, hf, forceL_eq hf l]

def fId {α : Type} (a : α) (k : α → Prop) : Prop := k a
theorem fId_eq {α : Type} (a : α) (k : α → Prop) : fId a k = k a := rfl

def fNat : Nat → (Nat → Prop) → Prop
  | 0, k => k 0
  | n + 1, k => k (n + 1)
theorem fNat_eq : ∀ (n : Nat) (k : Nat → Prop), fNat n k = k n
  | 0, _ => rfl
  | _ + 1, _ => rfl

def fV : Value → (Value → Prop) → Prop
  | .bool b, k => k (.bool b)
  | .int kd n, k => k (.int kd n)
  | .string s, k => k (.string s)
  | v, k => k v
theorem fV_eq (v : Value) (k : Value → Prop) : fV v k = k v := by cases v <;> rfl

def fCell : Cell → (Cell → Prop) → Prop
  | .lit v, k => fV v fun v => k (.lit v)
  | .list es, k => k (.list es)
  | .any, k => k .any
theorem fCell_eq (c : Cell) (k : Cell → Prop) : fCell c k = k c := by
  cases c with
  | lit v => rw [fCell, fV_eq]
  | list es => rfl
  | any => rfl

def fAC : AC → (AC → Prop) → Prop
  | .top, k => k .top
  | .val c, k => fCell c fun c => k (.val c)
  | .ref i, k => fNat i fun i => k (.ref i)
  | .bor i c, k => fNat i fun i => fCell c fun c => k (.bor i c)
  | .ptr i o, k => fNat i fun i => fNat o fun o => k (.ptr i o)
  | .eptr i j o, k => fNat i fun i => fNat o fun o => k (.eptr i j o)
  | .iptr src cs, k => match src with
    | none => k (.iptr none cs)
    | some i => fNat i fun i => k (.iptr (some i) cs)
  | .sub i j p, k => fNat i fun i => fNat p fun p => k (.sub i j p)
  | .mref i, k => fNat i fun i => k (.mref i)
theorem fAC_eq (c : AC) (k : AC → Prop) : fAC c k = k c := by
  cases c with
  | iptr src cs => cases src <;> simp [fAC, fNat_eq]
  | _ => simp [fAC, fNat_eq, fCell_eq]

def fSV : SV → (SV → Prop) → Prop
  | .one c, k => fAC c fun c => k (.one c)
  | .agg cs, k => forceL fAC cs fun cs => k (.agg cs)
theorem fSV_eq (x : SV) (k : SV → Prop) : fSV x k = k x := by
  cases x with
  | one c => simp [fSV, fAC_eq]
  | agg cs => simp [fSV, forceL_eq fAC_eq]

def fAV : AV → (AV → Prop) → Prop
  | .sv x, k => fSV x fun x => k (.sv x)
  | .tup l, k => forceL fSV l fun l => k (.tup l)
theorem fAV_eq (x : AV) (k : AV → Prop) : fAV x k = k x := by
  cases x with
  | sv x => simp [fAV, fSV_eq]
  | tup l => simp [fAV, forceL_eq fSV_eq]

def fOb : Ob → (Ob → Prop) → Prop
  | .free, k => k .free
  | .dead, k => k .dead
  | .box cs, k => forceL fAC cs fun cs => k (.box cs)
  | .arr own sz es, k => match own with
    | true => k (.arr true sz es)
    | false => k (.arr false sz es)
  | .map nn kd f, k => k (.map nn kd f)
theorem fOb_eq (o : Ob) (k : Ob → Prop) : fOb o k = k o := by
  cases o with
  | box cs => simp [fOb, forceL_eq fAC_eq]
  | arr own sz es => cases own <;> rfl
  | _ => rfl

def fSt (s : St) (k : St → Prop) : Prop := match s with
  | ⟨regs, objs, m⟩ => forceL fAV regs fun regs => forceL fOb objs fun objs => fNat m fun m => k ⟨regs, objs, m⟩
theorem fSt_eq (s : St) (k : St → Prop) : fSt s k = k s := by
  cases s; simp [fSt, forceL_eq fAV_eq, forceL_eq fOb_eq, fNat_eq]

def fUpd (p : Nat × Ob) (k : Nat × Ob → Prop) : Prop := match p with
  | (i, o) => fNat i fun i => fOb o fun o => k (i, o)
theorem fUpd_eq (p : Nat × Ob) (k : Nat × Ob → Prop) : fUpd p k = k p := by
  cases p; simp [fUpd, fNat_eq, fOb_eq]

def fRes (r : Res) (k : Res → Prop) : Prop := match r with
  | ⟨val, new, upd, inv⟩ => fAV val fun val => forceL fOb new fun new => forceL fUpd upd fun upd => forceL fNat inv fun inv => k ⟨val, new, upd, inv⟩
theorem fRes_eq (r : Res) (k : Res → Prop) : fRes r k = k r := by
  cases r; simp [fRes, fAV_eq, forceL_eq fOb_eq, forceL_eq fUpd_eq, forceL_eq fNat_eq]

end Go.Proofs.Ytamcedjjlokfhaa.Ab
