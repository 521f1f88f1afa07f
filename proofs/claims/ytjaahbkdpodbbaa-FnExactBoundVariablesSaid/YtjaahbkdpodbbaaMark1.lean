/- The contracts of the functions with which the laws mark what they were handed and look whether it was kept. No condition. -/
import Derived.Test.YtjaahbkdpodbbaaHCore
namespace Go.Proofs.Ytjaahbkdpodbbaa
open Go Go.Proofs.Ytjaahbkdpodbbaa.Ab
set_option linter.unusedVariables false
set_option linter.unusedSimpArgs false
set_option maxHeartbeats 4000000

/-- each element is marked behind those ahead of it -/
def seqM {α : Type} (f : α → Int → α) (c : α → Nat) : List α → Int → List α
  | [], _ => []
  | x :: r, n => f x n :: seqM f c r (n + c x)
theorem seqM_len {α : Type} (f : α → Int → α) (c : α → Nat) : ∀ (L : List α) (n : Int), (seqM f c L n).length = L.length
  | [], n => rfl
  | x :: r, n => by simp [seqM, seqM_len f c r]
theorem seqM_append {α : Type} (f : α → Int → α) (c : α → Nat) : ∀ (A B : List α) (n : Int), seqM f c (A ++ B) n = seqM f c A n ++ seqM f c B (n + sumBy c A)
  | [], B, n => by simp [seqM, sumBy]
  | x :: r, B, n => by simp only [List.cons_append, seqM, seqM_append f c r B, sumBy]; congr 3; omega
theorem sumBy_step {α : Type} [Inhabited α] (c : α → Nat) {L : List α} {i : Nat} (h : i < L.length) : sumBy c (L.take (i + 1)) = sumBy c (L.take i) + c (L.getD i default) := by
  rw [take_get h, sumBy_append]; simp [sumBy]
theorem sumBy_takeLe {α : Type} (c : α → Nat) (L : List α) (i : Nat) : sumBy c (L.take i) ≤ sumBy c L := by
  have := sumBy_append c (L.take i) (L.drop i)
  rw [List.take_append_drop] at this; omega
theorem sumBy_one {α : Type} : ∀ L : List α, sumBy (fun _ => 1) L = L.length
  | [] => rfl
  | x :: r => by simp only [sumBy, sumBy_one r, List.length_cons]; omega
/-- a list whose first i elements are marked -/
def mkTo {α : Type} (f : α → Int → α) (c : α → Nat) (L : List α) (n : Int) (i : Nat) : List α := seqM f c (L.take i) n ++ L.drop i
theorem mkTo_len {α : Type} (f : α → Int → α) (c : α → Nat) (L : List α) (n : Int) (i : Nat) : (mkTo f c L n i).length = L.length := by simp [mkTo, seqM_len]; omega
theorem mkTo_zero {α : Type} (f : α → Int → α) (c : α → Nat) (L : List α) (n : Int) : mkTo f c L n 0 = L := by simp [mkTo, seqM]
theorem mkTo_all {α : Type} (f : α → Int → α) (c : α → Nat) (L : List α) (n : Int) {i : Nat} (h : L.length ≤ i) : mkTo f c L n i = seqM f c L n := by
  simp [mkTo, List.drop_eq_nil_of_le h, List.take_of_length_le h]
theorem mkTo_get {α : Type} [Inhabited α] (f : α → Int → α) (c : α → Nat) (L : List α) (n : Int) {i : Nat} (h : i < L.length) : (mkTo f c L n i).getD i default = L.getD i default := by
  have : i - (seqM f c (List.take i L) n).length = 0 := by simp [seqM_len]; omega
  unfold mkTo
  rw [drop_get h, List.getD_eq_getElem?_getD, List.getElem?_append_right (by simp [seqM_len]; omega), this]; simp
theorem mkTo_set {α : Type} [Inhabited α] (f : α → Int → α) (c : α → Nat) (L : List α) (n : Int) {i : Nat} (h : i < L.length) :
    (mkTo f c L n i).set i (f (L.getD i default) (n + sumBy c (L.take i))) = mkTo f c L n (i + 1) := by
  have : i - (seqM f c (List.take i L) n).length = 0 := by simp [seqM_len]; omega
  unfold mkTo
  rw [drop_get h, take_get h, List.set_append_right _ _ (by simp [seqM_len]; omega), this, seqM_append]
  simp [seqM]
theorem mkTo_row {α : Type} [Inhabited α] {f : α → Int → α} {c : α → Nat} {L : List α} {n : Int} {C : α → List Cell} {i : Nat} {r : List Cell} (h : i < L.length) (hr : C (L.getD i default) = r) :
    ((mkTo f c L n i).map C)[i]? = some r := by
  rw [← hr, ← mkTo_get f c L n h]; exact getC (by rw [mkTo_len]; exact h) rfl
theorem mkTo_step {α : Type} [Inhabited α] {f : α → Int → α} {c : α → Nat} {L : List α} {n : Int} {C : α → List Cell} {i : Nat} {r : List Cell} (h : i < L.length)
    (hr : C (f (L.getD i default) (n + sumBy c (L.take i))) = r) : ((mkTo f c L n i).map C).set i r = (mkTo f c L n (i + 1)).map C := by
  rw [← hr, ← List.map_set, mkTo_set f c L n h]
theorem seqM_step {α : Type} [Inhabited α] (f : α → Int → α) (c : α → Nat) {L : List α} (n : Int) {i : Nat} (h : i < L.length) :
    seqM f c (L.take (i + 1)) n = L.take (i + 1) ↔ seqM f c (L.take i) n = L.take i ∧ f (L.getD i default) (n + sumBy c (L.take i)) = L.getD i default := by
  rw [take_get h, seqM_append]
  constructor
  · intro e
    have := List.append_inj e (by simp [seqM_len])
    exact ⟨this.1, by simpa [seqM] using this.2⟩
  · rintro ⟨e1, e2⟩; rw [e1]; simp only [seqM]; rw [e2]
theorem seqM_take {α : Type} (f : α → Int → α) (c : α → Nat) {L : List α} {n : Int} (i : Nat) (h : seqM f c L n = L) : seqM f c (L.take i) n = L.take i := by
  have e : seqM f c (L.take i ++ L.drop i) n = L.take i ++ L.drop i := by rw [List.take_append_drop]; exact h
  rw [seqM_append] at e
  exact (List.append_inj e (by simp [seqM_len])).1

theorem seqM_get {α : Type} [Inhabited α] {f : α → Int → α} {c : α → Nat} {L : List α} {n : Int} (h : seqM f c L n = L) {i : Nat} (hi : i < L.length) :
    f (L.getD i default) (n + sumBy c (L.take i)) = L.getD i default := ((seqM_step f c n hi).1 (seqM_take f c (i + 1) h)).2

def mkI (_ : Int) (n : Int) : Int := n
def cOne {α : Type} (_ : α) : Nat := 1
theorem cOne_sum {α : Type} : ∀ L : List α, sumBy cOne L = L.length
  | [] => rfl
  | x :: r => by simp only [sumBy, cOne_sum r, List.length_cons, cOne]; omega
theorem seqI_get {L : List Int} {n : Int} (h : seqM mkI cOne L n = L) {i : Nat} (hi : i < L.length) : L.getD i 0 = n + i := by
  have := seqM_get h hi
  simp only [mkI, cOne_sum, List.length_take] at this
  rw [show min i L.length = i by omega] at this
  exact this.symm
theorem cOne_take {α : Type} {L : List α} {i : Nat} (h : i ≤ L.length) : sumBy cOne (L.take i) = i := by rw [cOne_sum]; simp; omega

/-- the digits of a number -/
def digs (n : Nat) : List UInt8 := if h : n = 0 then [] else digs (n / 10) ++ [UInt8.ofNat (48 + n % 10)]
theorem digs_step {n : Nat} (h : 0 < n) : digs n = digs (n / 10) ++ [UInt8.ofNat (48 + n % 10)] := by
  rw [digs]; simp [show n ≠ 0 by omega]
theorem digs_len (n : Nat) : (digs n).length ≤ n := by
  induction n using Nat.strongRecOn with
  | ind n ih =>
    by_cases h : n = 0
    · subst h; rw [digs]; simp
    · rw [digs_step (by omega)]
      have := ih (n / 10) (by omega)
      simp only [List.length_append, List.length_cons, List.length_nil]; omega
theorem digs_zero : digs 0 = [] := by rw [digs]; simp
theorem digs_int {i : Int} (h : 0 < i) : digs i.toNat = digs (i / 10).toNat ++ [UInt8.ofNat (48 + i % 10).toNat] := by
  rw [digs_step (by omega), show i.toNat / 10 = (i / 10).toNat by omega, show 48 + i.toNat % 10 = (48 + i % 10).toNat by omega]
theorem u8_int {d : Int} (h0 : 0 ≤ d) (h1 : d < 256) : ((UInt8.ofNat d.toNat).toNat : Int) = d := by
  rw [UInt8.toNat_ofNat']; omega
theorem rngu8 {n : Int} : rng .u8 n ↔ 0 ≤ n ∧ n ≤ 255 := by
  unfold rng; simp [IntKind.min, IntKind.max, IntKind.signed, IntKind.bits]
def mText (n : Int) : ByteArray := if n ≤ 0 then mkS [109, 48] else mkS (109 :: digs n.toNat)

theorem set_row {α : Type} {l : List α} {k : Nat} {r : α} (h : k < l.length) : (l.set k r)[k]? = some r := by simp [h]
theorem rowLen {α : Type} {f : α → List Cell} {n : Nat} (h : ∀ x, (f x).length = n) {L : List α} {e : List Cell} (he : e ∈ L.map f) : e.length = n := by
  obtain ⟨x, _, rfl⟩ := List.mem_map.1 he; exact h x
theorem intC_len (x : Int) : (intC x).length = 1 := rfl
theorem strC_len (x : ByteArray) : (strC x).length = 1 := rfl
theorem outcomeC_len (x : Outcome) : (outcomeC x).length = 5 := rfl
theorem datumC_len (x : Datum) : (datumC x).length = 4 := by rw [datumC_eq]; rfl
theorem coreC_len (x : Core) : (coreC x).length = 8 := by rw [coreC_eq]; rfl
mutual
def cD : Datum → Nat
  | ⟨_, _, _, l⟩ => 3 + cDs l
def cDs : List Datum → Nat
  | [] => 0
  | x :: r => cD x + cDs r
end
theorem cDs_eq : ∀ l, cDs l = sumBy cD l
  | [] => by simp [cDs, sumBy]
  | x :: r => by rw [cDs, cDs_eq r, sumBy]
theorem cD_eq (x : Datum) : cD x = 3 + sumBy cD x.items := by cases x; simp only [cD, cDs_eq]
mutual
def mkD : Datum → Int → Datum
  | ⟨_, _, _, l⟩, n => ⟨n, n + 1, mText (n + 1 + 1), mkDs l (n + 1 + 1 + 1)⟩
def mkDs : List Datum → Int → List Datum
  | [], _ => []
  | x :: r, n => mkD x n :: mkDs r (n + cD x)
end
theorem mkDs_eq : ∀ l n, mkDs l n = seqM mkD cD l n
  | [], n => by rw [mkDs, seqM]
  | x :: r, n => by rw [mkDs, seqM, mkDs_eq r]
theorem mkD_eq (x : Datum) (n : Int) : mkD x n = ⟨n, n + 1, mText (n + 1 + 1), seqM mkD cD x.items (n + 1 + 1 + 1)⟩ := by cases x; simp only [mkD, mkDs_eq]
theorem mkD_C (x : Datum) (n : Int) : datumC (mkD x n) = [cI n, cI (n + 1), cS (mText (n + 1 + 1)), .list ((seqM mkD cD x.items (n + 1 + 1 + 1)).map datumC)] := by rw [mkD_eq, datumC_eq]; rfl

mutual
def cC : Core → Nat
  | ⟨_, _, p, d, l⟩ => 5 + p.length + sumBy cD d.items + cCs l
def cCs : List Core → Nat
  | [] => 0
  | x :: r => cC x + cCs r
end
theorem cCs_eq : ∀ l, cCs l = sumBy cC l
  | [] => by simp [cCs, sumBy]
  | x :: r => by rw [cCs, cCs_eq r, sumBy]
theorem cC_eq (x : Core) : cC x = 5 + x.params.length + sumBy cD x.datum.items + sumBy cC x.kids := by cases x; simp only [cC, cCs_eq]
mutual
def mkC : Core → Int → Core
  | ⟨_, _, p, d, l⟩, n => ⟨n, n + 1, seqM mkI cOne p (n + 1 + 1), mkD d (n + 1 + 1 + p.length), mkCs l (n + 1 + 1 + p.length + 1 + 1 + 1 + sumBy cD d.items)⟩
def mkCs : List Core → Int → List Core
  | [], _ => []
  | x :: r, n => mkC x n :: mkCs r (n + cC x)
end
theorem mkCs_eq : ∀ l n, mkCs l n = seqM mkC cC l n
  | [], n => by rw [mkCs, seqM]
  | x :: r, n => by rw [mkCs, seqM, mkCs_eq r]
theorem mkC_C (x : Core) (n : Int) : coreC (mkC x n) = [cI n, cI (n + 1), .list ((seqM mkI cOne x.params (n + 1 + 1)).map intC), cI (n + 1 + 1 + x.params.length), cI (n + 1 + 1 + x.params.length + 1), cS (mText (n + 1 + 1 + x.params.length + 1 + 1)),
    .list ((seqM mkD cD x.datum.items (n + 1 + 1 + x.params.length + 1 + 1 + 1)).map datumC), .list ((seqM mkC cC x.kids (n + 1 + 1 + x.params.length + 1 + 1 + 1 + sumBy cD x.datum.items)).map coreC)] := by
  rw [coreC_eq]; cases x; simp only [mkC, mkCs_eq, coreF, mkD_eq]

def Tc_markIntSLa (L : List Int) (n : Int) (x0 : SV) (x1 : SV) (x2 : Ob) : St := St.mk (regsOf 19 [(0, AV.sv (SV.one (AC.ref 0))), (1, AV.sv x1), (5, AV.sv x0)]) [x2] 1 
def Lc_markIntSLa (L : List Int) (n : Int) (k : Nat) : St := Tc_markIntSLa L n (li (↑k : Int)) (li (n + (↑k : Int))) (Ob.arr true 1 (List.map intC (mkTo mkI cOne L n k))) 
def Ic_markIntSLa (L : List Int) (n : Int) : Nat → St → Prop := Head (Lc_markIntSLa L n) (fun k => k ≤ List.length L) fun k => List.length L - k 
def W0c_markIntSLa (L : List Int) (n : Int) (x0 : SV) (x1 : Ob) : St := St.mk (regsOf 19 [(1, AV.sv x0)]) [x1] 1 
def Yc_markIntSLa (L : List Int) (n : Int) : List (Prop × AEx × St) := [(True, AEx.exit 0, W0c_markIntSLa L n (li (n + (↑(List.length L) : Int))) (Ob.arr true 1 (List.map intC
 (seqM mkI cOne L n))))]
theorem Hc_markIntSLa {L : List Int} {n : Int} {k : Nat} {m : Nat} (h : (fun k => k ≤ List.length L) k) (hm : (fun k => List.length L - k) k = m) : Ic_markIntSLa L n m
 (Lc_markIntSLa L n k) := hm ▸ Head.mk h
theorem Ec_markIntSLa {L : List Int} {n : Int} {k : Nat} {x0 : SV} {x1 : SV} {x2 : Ob} (h0 : x0 = (li (↑k : Int))) (h1 : x1 = (li (n + (↑k : Int)))) (h2 : x2 = (Ob.arr true 1
 (List.map intC (mkTo mkI cOne L n k)))) : Tc_markIntSLa L n x0 x1 x2 = Lc_markIntSLa L n k := by (rw [h0, h1, h2]; rfl)
theorem run_c_markIntSLa (L : List Int) (n : Int) (k : Nat) : aexec Try.prog (loopAt Try.f43 0) (Lc_markIntSLa L n k) [Orc.br [Orc.cells (intC (List.getD L (Int.toNat (↑k : Int))
 default)), Orc.ghost (Ghost.sel [0] [0, 1, 5]), Orc.goto (List.length L - (k + 1)) (Lc_markIntSLa L n (k + 1))] [Orc.ghost (Ghost.sel [0] [1]), Orc.out 0]] (loopK (Ic_markIntSLa L
 n) (Yc_markIntSLa L n) (List.length L - k)) = (List.length (List.map intC (mkTo mkI cOne L n k)) ≤ 9223372036854775807 → (decide ((↑k : Int) < (↑(List.length (List.map intC (mkTo
 mkI cOne L n k))) : Int)) = true → (0 ≤ (↑k : Int) ∧ Int.toNat (↑k : Int) < List.length (List.map intC (mkTo mkI cOne L n k))) ∧ (List.map intC (mkTo mkI cOne L n k))[Int.toNat
 (↑k : Int)]? = some [cI (List.getD L (Int.toNat (↑k : Int)) 0)] ∧ rng IntKind.i64 (n + (↑k : Int) + 1) ∧ rng IntKind.i64 ((↑k : Int) + 1) ∧ List.length L - (k + 1) < List.length L
 - k ∧ Tc_markIntSLa L n (li ((↑k : Int) + 1)) (li (n + (↑k : Int) + 1)) (Ob.arr true 1 (List.set (List.map intC (mkTo mkI cOne L n k)) (Int.toNat (↑k : Int)) [cI (n + (↑k :
 Int))])) = Lc_markIntSLa L n (k + 1) ∧ Ic_markIntSLa L n (List.length L - (k + 1)) (Lc_markIntSLa L n (k + 1))) ∧ (decide ((↑k : Int) < (↑(List.length (List.map intC (mkTo mkI
 cOne L n k))) : Int)) = false → True ∧ W0c_markIntSLa L n (li (n + (↑k : Int))) (Ob.arr true 1 (List.map intC (mkTo mkI cOne L n k))) = W0c_markIntSLa L n (li (n + (↑(List.length
 L) : Int))) (Ob.arr true 1 (List.map intC (seqM mkI cOne L n))))) := by kernel_rfl
theorem Sc_markIntSLa (L : List Int) (n : Int) (h0 : 0 ≤ n) (h : n + (↑(List.length L) : Int) ≤ 9223372036854775807)  : LoopSem Try.prog (loopAt Try.f43 0) (Ic_markIntSLa L n)
 (Yc_markIntSLa L n) := by
  refine LoopSem.ofHead wide fun k h => ⟨_, _, run_c_markIntSLa L n k, ?_⟩
  with_reducible repeat' (first | apply And.intro | (intro; skip) | apply Hc_markIntSLa | apply Ec_markIntSLa)
  all_goals (try simp only [size_list, List.length_map, Int.toNat_natCast, rng64, obsEq_iff, List.length_append, List.length_replicate, fillTo_len, decide_eq_true_eq, decide_eq_false_iff_not, ne_eq, lb_inj, li_inj, ls_inj, mk_toArray, tx_mkS, mkS_inj, size_mkS, mkTo_len, mkTo_zero, cOne_sum, seqM_len, List.length_set, List.set_set, List.take_zero, sumBy, Int.natCast_zero, Int.add_zero] at *)
  all_goals (try (first | with_reducible rfl | omega | assumption | exact getC (by first | omega | (simp only [fillTo_len, mkTo_len]; omega) | grind) rfl | exact outcomeGet (by first | omega | (simp only [fillTo_len, mkTo_len]; omega) | grind) | exact datumGet (by first | omega | (simp only [fillTo_len, mkTo_len]; omega) | grind) | exact coreGet (by first | omega | (simp only [fillTo_len, mkTo_len]; omega) | grind) | exact congrArg (Ob.arr true _) (fill_step (by first | omega | (simp only [fillTo_len, mkTo_len]; omega) | grind) (by first | rfl | exact outcomeC_eq _ | exact datumC_eq _ | exact coreC_eq _)) | exact congrArg (Ob.arr true _) (fill_init (by first | rfl | exact outcomeC_eq _ | exact datumC_eq _ | exact coreC_eq _)) | exact set_row (by simp only [List.length_map, List.length_set, mkTo_len]; omega) | exact (by first | exact rowLen intC_len (by assumption) | exact rowLen strC_len (by assumption) | exact rowLen outcomeC_len (by assumption) | exact rowLen datumC_len (by assumption) | exact rowLen coreC_len (by assumption)) | exact mkTo_row (by first | omega | (simp only [fillTo_len, mkTo_len]; omega) | grind) (by first | rfl | exact outcomeC_eq _ | exact datumC_eq _ | exact coreC_eq _) | exact congrArg (Ob.arr true _) (mkTo_step (by first | omega | (simp only [fillTo_len, mkTo_len]; omega) | grind) (by grind [mkTo_all, mkI, cOne_take, intC, mkTo_get])) | grind [mkTo_all, mkI, cOne_take, intC, mkTo_get]))
theorem run_c_markIntS (L : List Int) (n : Int) : aexec Try.prog (Option.getD (Func.body Try.f43) Code.skip) (entry [Ob.arr true 1 (List.map intC L)] [SV.one (AC.ref 0), li n] 19)
 [Orc.ghost (Ghost.sel [0] [0, 1, 5]), Orc.loop (List.length L - 0) (Lc_markIntSLa L n 0) (Ic_markIntSLa L n) [(True, AEx.exit 0, W0c_markIntSLa L n (li (n + (↑(List.length L) :
 Int))) (Ob.arr true 1 (List.map intC (seqM mkI cOne L n))), [Orc.fin []])]] (finK Try.prog [ResultVar.tmp 4] [Ob.arr true 1 (List.map intC (seqM mkI cOne L n))] (AV.sv (li (n +
 (↑(List.length L) : Int))))) = (Tc_markIntSLa L n (li 0) (li n) (Ob.arr true 1 (List.map intC L)) = Lc_markIntSLa L n 0 ∧ Ic_markIntSLa L n (List.length L - 0) (Lc_markIntSLa L n
 0) ∧ LoopSem Try.prog (loopAt Try.f43 0) (Ic_markIntSLa L n) (Yc_markIntSLa L n) ∧ (True → ObsEq [Ob.arr true 1 (List.map intC (seqM mkI cOne L n))] [Ob.arr true 1 (List.map intC
 (seqM mkI cOne L n))] ∧ AV.sv (li (n + (↑(List.length L) : Int))) = AV.sv (li (n + (↑(List.length L) : Int)))) ∧ True) := by kernel_rfl
theorem c_markIntS (L : List Int) (n : Int) (h0 : 0 ≤ n) (h : n + L.length ≤ 9223372036854775807)  : CallOK Try.prog 43 [.arr true 1 (L.map intC)] [.one (.ref 0), li n] [.arr true
 1 ((seqM mkI cOne L n).map intC)] (.sv (li (n + L.length))) := by
  refine CallOK.ofRun wide (run_c_markIntS L n) Try.call43 Try.func43 rfl rfl rfl ?_
  with_reducible repeat' (first | apply And.intro | (intro; skip) | apply Hc_markIntSLa | apply Ec_markIntSLa | apply Sc_markIntSLa)
  all_goals (try simp only [size_list, List.length_map, Int.toNat_natCast, rng64, obsEq_iff, List.length_append, List.length_replicate, fillTo_len, decide_eq_true_eq, decide_eq_false_iff_not, ne_eq, lb_inj, li_inj, ls_inj, mk_toArray, tx_mkS, mkS_inj, size_mkS, mkTo_len, mkTo_zero, cOne_sum, seqM_len, List.length_set, List.set_set, List.take_zero, sumBy, Int.natCast_zero, Int.add_zero] at *)
  all_goals (try (first | with_reducible rfl | omega | assumption | exact getC (by first | omega | (simp only [fillTo_len, mkTo_len]; omega) | grind) rfl | exact outcomeGet (by first | omega | (simp only [fillTo_len, mkTo_len]; omega) | grind) | exact datumGet (by first | omega | (simp only [fillTo_len, mkTo_len]; omega) | grind) | exact coreGet (by first | omega | (simp only [fillTo_len, mkTo_len]; omega) | grind) | exact congrArg (Ob.arr true _) (fill_step (by first | omega | (simp only [fillTo_len, mkTo_len]; omega) | grind) (by first | rfl | exact outcomeC_eq _ | exact datumC_eq _ | exact coreC_eq _)) | exact congrArg (Ob.arr true _) (fill_init (by first | rfl | exact outcomeC_eq _ | exact datumC_eq _ | exact coreC_eq _)) | exact set_row (by simp only [List.length_map, List.length_set, mkTo_len]; omega) | exact (by first | exact rowLen intC_len (by assumption) | exact rowLen strC_len (by assumption) | exact rowLen outcomeC_len (by assumption) | exact rowLen datumC_len (by assumption) | exact rowLen coreC_len (by assumption)) | exact mkTo_row (by first | omega | (simp only [fillTo_len, mkTo_len]; omega) | grind) (by first | rfl | exact outcomeC_eq _ | exact datumC_eq _ | exact coreC_eq _) | exact congrArg (Ob.arr true _) (mkTo_step (by first | omega | (simp only [fillTo_len, mkTo_len]; omega) | grind) (by grind [mkTo_zero])) | grind [mkTo_zero]))


def Tc_heldIntSLa (L : List Int) (n : Int) (x0 : SV) (x1 : SV) : St := St.mk (regsOf 21 [(0, AV.sv (ll (List.map intC L))), (1, AV.sv x1), (5, AV.sv x0)]) [] 0 
def Lc_heldIntSLa (L : List Int) (n : Int) (k : Nat) : St := Tc_heldIntSLa L n (li (↑k : Int)) (li (n + (↑k : Int))) 
def Ic_heldIntSLa (L : List Int) (n : Int) : Nat → St → Prop := Head (Lc_heldIntSLa L n) (fun k => k ≤ List.length L ∧ seqM mkI cOne (List.take k L) n = List.take k L) fun k =>
 List.length L - k 
def W0c_heldIntSLa (L : List Int) (n : Int) (x0 : SV) : St := St.mk (regsOf 21 [(1, AV.sv x0)]) [] 0 
def W1c_heldIntSLa (L : List Int) (n : Int) (x0 : SV) : St := St.mk (regsOf 21 [(4, AV.sv x0)]) [] 0 
def Yc_heldIntSLa (L : List Int) (n : Int) : List (Prop × AEx × St) := [(seqM mkI cOne L n = L, AEx.exit 0, W0c_heldIntSLa L n (li (n + (↑(List.length L) : Int)))), (seqM mkI cOne
 L n ≠ L, AEx.ret, W1c_heldIntSLa L n (li (-1 : Int)))]
theorem Hc_heldIntSLa {L : List Int} {n : Int} {k : Nat} {m : Nat} (h : (fun k => k ≤ List.length L ∧ seqM mkI cOne (List.take k L) n = List.take k L) k) (hm : (fun k =>
 List.length L - k) k = m) : Ic_heldIntSLa L n m (Lc_heldIntSLa L n k) := hm ▸ Head.mk h
theorem Ec_heldIntSLa {L : List Int} {n : Int} {k : Nat} {x0 : SV} {x1 : SV} (h0 : x0 = (li (↑k : Int))) (h1 : x1 = (li (n + (↑k : Int)))) : Tc_heldIntSLa L n x0 x1 = Lc_heldIntSLa
 L n k := by (rw [h0, h1]; rfl)
theorem run_c_heldIntSLa (L : List Int) (n : Int) (k : Nat) : aexec Try.prog (loopAt Try.f44 0) (Lc_heldIntSLa L n k) [Orc.br [Orc.cells (intC (List.getD L k default)), Orc.br
 [Orc.ghost (Ghost.sel [] [4]), Orc.out 1] [Orc.ghost (Ghost.sel [] [0, 1, 5]), Orc.goto (List.length L - (k + 1)) (Lc_heldIntSLa L n (k + 1))]] [Orc.ghost (Ghost.sel [] [1]),
 Orc.out 0]] (loopK (Ic_heldIntSLa L n) (Yc_heldIntSLa L n) (List.length L - k)) = (List.length (List.map intC L) ≤ 9223372036854775807 → (decide ((↑k : Int) < (↑(List.length
 (List.map intC L)) : Int)) = true → (0 ≤ (↑k : Int) ∧ (List.map intC L)[Int.toNat (↑k : Int)]? = some [cI (List.getD L k 0)]) ∧ (decide (List.getD L k (0 : Int) ≠ n + (↑k : Int))
 = true → seqM mkI cOne L n ≠ L ∧ W1c_heldIntSLa L n (li (-1 : Int)) = W1c_heldIntSLa L n (li (-1 : Int))) ∧ (decide (List.getD L k (0 : Int) ≠ n + (↑k : Int)) = false → rng
 IntKind.i64 (n + (↑k : Int) + 1) ∧ rng IntKind.i64 ((↑k : Int) + 1) ∧ List.length L - (k + 1) < List.length L - k ∧ Tc_heldIntSLa L n (li ((↑k : Int) + 1)) (li (n + (↑k : Int) +
 1)) = Lc_heldIntSLa L n (k + 1) ∧ Ic_heldIntSLa L n (List.length L - (k + 1)) (Lc_heldIntSLa L n (k + 1)))) ∧ (decide ((↑k : Int) < (↑(List.length (List.map intC L)) : Int)) =
 false → seqM mkI cOne L n = L ∧ W0c_heldIntSLa L n (li (n + (↑k : Int))) = W0c_heldIntSLa L n (li (n + (↑(List.length L) : Int))))) := by kernel_rfl
theorem Sc_heldIntSLa (L : List Int) (n : Int) (h0 : 0 ≤ n) (h : n + (↑(List.length L) : Int) ≤ 9223372036854775807)  : LoopSem Try.prog (loopAt Try.f44 0) (Ic_heldIntSLa L n)
 (Yc_heldIntSLa L n) := by
  refine LoopSem.ofHead wide fun k h => ⟨_, _, run_c_heldIntSLa L n k, ?_⟩
  with_reducible repeat' (first | apply And.intro | (intro; skip) | apply Hc_heldIntSLa | apply Ec_heldIntSLa)
  all_goals (try simp only [size_list, List.length_map, Int.toNat_natCast, rng64, obsEq_iff, List.length_append, List.length_replicate, fillTo_len, decide_eq_true_eq, decide_eq_false_iff_not, ne_eq, lb_inj, li_inj, ls_inj, mk_toArray, tx_mkS, mkS_inj, size_mkS, mkTo_len, mkTo_zero, cOne_sum, seqM_len, List.length_set, List.set_set, List.take_zero, sumBy, Int.natCast_zero, Int.add_zero] at *)
  all_goals (try (first | with_reducible rfl | omega | assumption | exact getC (by first | omega | (simp only [fillTo_len, mkTo_len]; omega) | grind) rfl | exact outcomeGet (by first | omega | (simp only [fillTo_len, mkTo_len]; omega) | grind) | exact datumGet (by first | omega | (simp only [fillTo_len, mkTo_len]; omega) | grind) | exact coreGet (by first | omega | (simp only [fillTo_len, mkTo_len]; omega) | grind) | exact congrArg (Ob.arr true _) (fill_step (by first | omega | (simp only [fillTo_len, mkTo_len]; omega) | grind) (by first | rfl | exact outcomeC_eq _ | exact datumC_eq _ | exact coreC_eq _)) | exact congrArg (Ob.arr true _) (fill_init (by first | rfl | exact outcomeC_eq _ | exact datumC_eq _ | exact coreC_eq _)) | exact set_row (by simp only [List.length_map, List.length_set, mkTo_len]; omega) | exact (by first | exact rowLen intC_len (by assumption) | exact rowLen strC_len (by assumption) | exact rowLen outcomeC_len (by assumption) | exact rowLen datumC_len (by assumption) | exact rowLen coreC_len (by assumption)) | exact mkTo_row (by first | omega | (simp only [fillTo_len, mkTo_len]; omega) | grind) (by first | rfl | exact outcomeC_eq _ | exact datumC_eq _ | exact coreC_eq _) | exact congrArg (Ob.arr true _) (mkTo_step (by first | omega | (simp only [fillTo_len, mkTo_len]; omega) | grind) (by grind [seqM_step, seqI_get, mkI, cOne_take])) | grind [seqM_step, seqI_get, mkI, cOne_take]))
theorem run_c_heldIntS (L : List Int) (n : Int) : aexec Try.prog (Option.getD (Func.body Try.f44) Code.skip) (entry [] [ll (List.map intC L), li n] 21) [Orc.ghost (Ghost.sel [] [0,
 1, 5]), Orc.loop (List.length L - 0) (Lc_heldIntSLa L n 0) (Ic_heldIntSLa L n) [(seqM mkI cOne L n = L, AEx.exit 0, W0c_heldIntSLa L n (li (n + (↑(List.length L) : Int))),
 [Orc.fin []]), (seqM mkI cOne L n ≠ L, AEx.ret, W1c_heldIntSLa L n (li (-1 : Int)), [Orc.fin []])]] (finK Try.prog [ResultVar.tmp 4] [] (AV.sv (li (if seqM mkI cOne L n = L then n
 + (↑(List.length L) : Int) else (-1 : Int))))) = (Tc_heldIntSLa L n (li 0) (li n) = Lc_heldIntSLa L n 0 ∧ Ic_heldIntSLa L n (List.length L - 0) (Lc_heldIntSLa L n 0) ∧ LoopSem
 Try.prog (loopAt Try.f44 0) (Ic_heldIntSLa L n) (Yc_heldIntSLa L n) ∧ (seqM mkI cOne L n = L → ObsEq [] [] ∧ AV.sv (li (n + (↑(List.length L) : Int))) = AV.sv (li (if seqM mkI
 cOne L n = L then n + (↑(List.length L) : Int) else (-1 : Int)))) ∧ ((seqM mkI cOne L n = L → False) → ObsEq [] [] ∧ AV.sv (li (-1 : Int)) = AV.sv (li (if seqM mkI cOne L n = L
 then n + (↑(List.length L) : Int) else (-1 : Int)))) ∧ True) := by kernel_rfl
theorem c_heldIntS (L : List Int) (n : Int) (h0 : 0 ≤ n) (h : n + L.length ≤ 9223372036854775807)  : CallOK Try.prog 44 [] [ll (L.map intC), li n] [] (.sv (li (if seqM mkI cOne L n
 = L then n + L.length else -1))) := by
  refine CallOK.ofRun wide (run_c_heldIntS L n) Try.call44 Try.func44 rfl rfl rfl ?_
  with_reducible repeat' (first | apply And.intro | (intro; skip) | apply Hc_heldIntSLa | apply Ec_heldIntSLa | apply Sc_heldIntSLa)
  all_goals (try simp only [size_list, List.length_map, Int.toNat_natCast, rng64, obsEq_iff, List.length_append, List.length_replicate, fillTo_len, decide_eq_true_eq, decide_eq_false_iff_not, ne_eq, lb_inj, li_inj, ls_inj, mk_toArray, tx_mkS, mkS_inj, size_mkS, mkTo_len, mkTo_zero, cOne_sum, seqM_len, List.length_set, List.set_set, List.take_zero, sumBy, Int.natCast_zero, Int.add_zero] at *)
  all_goals (try (first | with_reducible rfl | omega | assumption | exact getC (by first | omega | (simp only [fillTo_len, mkTo_len]; omega) | grind) rfl | exact outcomeGet (by first | omega | (simp only [fillTo_len, mkTo_len]; omega) | grind) | exact datumGet (by first | omega | (simp only [fillTo_len, mkTo_len]; omega) | grind) | exact coreGet (by first | omega | (simp only [fillTo_len, mkTo_len]; omega) | grind) | exact congrArg (Ob.arr true _) (fill_step (by first | omega | (simp only [fillTo_len, mkTo_len]; omega) | grind) (by first | rfl | exact outcomeC_eq _ | exact datumC_eq _ | exact coreC_eq _)) | exact congrArg (Ob.arr true _) (fill_init (by first | rfl | exact outcomeC_eq _ | exact datumC_eq _ | exact coreC_eq _)) | exact set_row (by simp only [List.length_map, List.length_set, mkTo_len]; omega) | exact (by first | exact rowLen intC_len (by assumption) | exact rowLen strC_len (by assumption) | exact rowLen outcomeC_len (by assumption) | exact rowLen datumC_len (by assumption) | exact rowLen coreC_len (by assumption)) | exact mkTo_row (by first | omega | (simp only [fillTo_len, mkTo_len]; omega) | grind) (by first | rfl | exact outcomeC_eq _ | exact datumC_eq _ | exact coreC_eq _) | exact congrArg (Ob.arr true _) (mkTo_step (by first | omega | (simp only [fillTo_len, mkTo_len]; omega) | grind) (by grind [seqM])) | grind [seqM]))


def Tc_markTextLa (n : Int) (x0 : SV) (x1 : SV) : St := St.mk (regsOf 20 [(0, AV.sv x0), (3, AV.sv x1)]) [] 0 
def Lc_markTextLa (n : Int) (k : Int × List UInt8) : St := Tc_markTextLa n (li (Prod.fst k)) (ls (mkS (Prod.snd k))) 
def Ic_markTextLa (n : Int) : Nat → St → Prop := Head (Lc_markTextLa n) (fun k => 0 ≤ Prod.fst k ∧ Prod.fst k ≤ n ∧ digs (Int.toNat (Prod.fst k)) ++ Prod.snd k = digs (Int.toNat
 n)) fun k => Int.toNat (Prod.fst k) 
def W0c_markTextLa (n : Int) (x0 : SV) : St := St.mk (regsOf 20 [(3, AV.sv x0)]) [] 0 
def Yc_markTextLa (n : Int) : List (Prop × AEx × St) := [(True, AEx.exit 0, W0c_markTextLa n (ls (mkS (digs (Int.toNat n)))))]
theorem Hc_markTextLa {n : Int} {k : Int × List UInt8} {m : Nat} (h : (fun k => 0 ≤ Prod.fst k ∧ Prod.fst k ≤ n ∧ digs (Int.toNat (Prod.fst k)) ++ Prod.snd k = digs (Int.toNat n))
 k) (hm : (fun k => Int.toNat (Prod.fst k)) k = m) : Ic_markTextLa n m (Lc_markTextLa n k) := hm ▸ Head.mk h
theorem Ec_markTextLa {n : Int} {k : Int × List UInt8} {x0 : SV} {x1 : SV} (h0 : x0 = (li (Prod.fst k))) (h1 : x1 = (ls (mkS (Prod.snd k)))) : Tc_markTextLa n x0 x1 = Lc_markTextLa
 n k := by (rw [h0, h1]; rfl)
theorem run_c_markTextLa (n : Int) (k : Int × List UInt8) : aexec Try.prog (loopAt Try.f85 0) (Lc_markTextLa n k) [Orc.br [Orc.bytes [UInt8.ofNat (Int.toNat (48 + Int.tmod
 (Prod.fst k) 10))], Orc.ghost (Ghost.sel [] [0, 3]), Orc.goto (Int.toNat (Int.tdiv (Prod.fst k) 10)) (Lc_markTextLa n (Int.tdiv (Prod.fst k) 10, [UInt8.ofNat (Int.toNat (48 +
 Int.tmod (Prod.fst k) 10))] ++ Prod.snd k))] [Orc.ghost (Ghost.sel [] [3]), Orc.out 0]] (loopK (Ic_markTextLa n) (Yc_markTextLa n) (Int.toNat (Prod.fst k))) = ((decide (0 <
 Prod.fst k) = true → (10 : Int) ≠ 0 ∧ rng IntKind.i64 (48 + Int.tmod (Prod.fst k) 10) ∧ rng IntKind.u8 (48 + Int.tmod (Prod.fst k) 10) ∧ [[Cell.lit (Value.int IntKind.u8 (48 +
 Int.tmod (Prod.fst k) 10))]] = [[Cell.lit (Value.int IntKind.u8 (↑(UInt8.toNat (UInt8.ofNat (Int.toNat (48 + Int.tmod (Prod.fst k) 10)))) : Int))]] ∧ 1 + List.length (Prod.snd k)
 ≤ 9223372036854775807 ∧ (10 : Int) ≠ 0 ∧ rng IntKind.i64 (Int.tdiv (Prod.fst k) 10) ∧ Int.toNat (Int.tdiv (Prod.fst k) 10) < Int.toNat (Prod.fst k) ∧ Tc_markTextLa n (li (Int.tdiv
 (Prod.fst k) 10)) (ls (ByteArray.mk (List.toArray ([UInt8.ofNat (Int.toNat (48 + Int.tmod (Prod.fst k) 10))] ++ Prod.snd k)))) = Lc_markTextLa n (Int.tdiv (Prod.fst k) 10,
 [UInt8.ofNat (Int.toNat (48 + Int.tmod (Prod.fst k) 10))] ++ Prod.snd k) ∧ Ic_markTextLa n (Int.toNat (Int.tdiv (Prod.fst k) 10)) (Lc_markTextLa n (Int.tdiv (Prod.fst k) 10,
 [UInt8.ofNat (Int.toNat (48 + Int.tmod (Prod.fst k) 10))] ++ Prod.snd k))) ∧ (decide (0 < Prod.fst k) = false → True ∧ W0c_markTextLa n (ls (mkS (Prod.snd k))) = W0c_markTextLa n
 (ls (mkS (digs (Int.toNat n)))))) := by kernel_rfl
theorem Sc_markTextLa (n : Int) (h0 : 0 ≤ n) (h : n ≤ 2147483647)  : LoopSem Try.prog (loopAt Try.f85 0) (Ic_markTextLa n) (Yc_markTextLa n) := by
  refine LoopSem.ofHead wide fun k h => ⟨_, _, run_c_markTextLa n k, ?_⟩
  obtain ⟨i, l⟩ := k
  simp only at *
  obtain ⟨g1, g2, g3⟩ := h
  have g4 : l.length ≤ 2147483647 := by
    have := congrArg List.length g3
    have := digs_len n.toNat
    simp only [List.length_append] at *
    omega
  simp only [Int.tmod_eq_emod_of_nonneg g1, Int.tdiv_eq_ediv_of_nonneg g1]
  refine ⟨fun g => ?_, fun g => ?_⟩
  · have g : 0 < i := of_decide_eq_true g
    refine ⟨by decide, by rw [rng64]; omega, by rw [rngu8]; omega, by rw [u8_int (by omega) (by omega)], by omega, by decide, by rw [rng64]; omega, by omega, ?_, ?_⟩
    · apply Ec_markTextLa <;> rfl
    · apply Hc_markTextLa
      · exact ⟨by show 0 ≤ i / 10; omega, by show i / 10 ≤ n; omega, by show digs (i / 10).toNat ++ ([_] ++ l) = _; rw [← g3, digs_int g, List.append_assoc]⟩
      · rfl
  · have g : ¬ 0 < i := of_decide_eq_false g
    refine ⟨trivial, ?_⟩
    have e : i = 0 := by omega
    subst e
    rw [show digs (0 : Int).toNat = [] from digs_zero] at g3
    rw [← g3]; rfl
theorem run_c_markText (n : Int) : aexec Try.prog (Option.getD (Func.body Try.f85) Code.skip) (entry [] [li n] 20) [Orc.br [Orc.fin []] [Orc.ghost (Ghost.sel [] [0, 3]), Orc.loop
 (Int.toNat n) (Lc_markTextLa n (n, [])) (Ic_markTextLa n) [(True, AEx.exit 0, W0c_markTextLa n (ls (mkS (digs (Int.toNat n)))), [Orc.fin []])]]] (finK Try.prog [ResultVar.tmp 2]
 [] (AV.sv (ls (mText n)))) = ((decide (n ≤ 0) = true → ObsEq [] [] ∧ AV.sv (ls (ByteArray.mk #[(109 : UInt8), (48 : UInt8)])) = AV.sv (ls (mText n))) ∧ (decide (n ≤ 0) = false →
 Tc_markTextLa n (li n) (ls (ByteArray.mk #[])) = Lc_markTextLa n (n, []) ∧ Ic_markTextLa n (Int.toNat n) (Lc_markTextLa n (n, [])) ∧ LoopSem Try.prog (loopAt Try.f85 0)
 (Ic_markTextLa n) (Yc_markTextLa n) ∧ (True → 1 + List.length (digs (Int.toNat n)) ≤ 9223372036854775807 ∧ ObsEq [] [] ∧ AV.sv (ls (ByteArray.mk (List.toArray ([(109 : UInt8)] ++
 digs (Int.toNat n))))) = AV.sv (ls (mText n))) ∧ True)) := by kernel_rfl
theorem c_markText (n : Int) (h0 : 0 ≤ n) (h : n ≤ 2147483647)  : CallOK Try.prog 85 [] [li n] [] (.sv (ls (mText n))) := by
  refine CallOK.ofRun wide (run_c_markText n) Try.call85 Try.func85 rfl rfl rfl ?_
  have g := digs_len n.toNat
  simp only [mText]
  with_reducible repeat' (first | apply And.intro | (intro; skip) | apply Hc_markTextLa | apply Ec_markTextLa | apply Sc_markTextLa)
  all_goals (try simp only [size_list, List.length_map, Int.toNat_natCast, rng64, obsEq_iff, List.length_append, List.length_replicate, fillTo_len, decide_eq_true_eq, decide_eq_false_iff_not, ne_eq, lb_inj, li_inj, ls_inj, mk_toArray, tx_mkS, mkS_inj, size_mkS, mkTo_len, mkTo_zero, cOne_sum, seqM_len, List.length_set, List.set_set, List.take_zero, sumBy, Int.natCast_zero, Int.add_zero] at *)
  all_goals (try (first | with_reducible rfl | omega | assumption | exact getC (by first | omega | (simp only [fillTo_len, mkTo_len]; omega) | grind) rfl | exact outcomeGet (by first | omega | (simp only [fillTo_len, mkTo_len]; omega) | grind) | exact datumGet (by first | omega | (simp only [fillTo_len, mkTo_len]; omega) | grind) | exact coreGet (by first | omega | (simp only [fillTo_len, mkTo_len]; omega) | grind) | exact congrArg (Ob.arr true _) (fill_step (by first | omega | (simp only [fillTo_len, mkTo_len]; omega) | grind) (by first | rfl | exact outcomeC_eq _ | exact datumC_eq _ | exact coreC_eq _)) | exact congrArg (Ob.arr true _) (fill_init (by first | rfl | exact outcomeC_eq _ | exact datumC_eq _ | exact coreC_eq _)) | exact set_row (by simp only [List.length_map, List.length_set, mkTo_len]; omega) | exact (by first | exact rowLen intC_len (by assumption) | exact rowLen strC_len (by assumption) | exact rowLen outcomeC_len (by assumption) | exact rowLen datumC_len (by assumption) | exact rowLen coreC_len (by assumption)) | exact mkTo_row (by first | omega | (simp only [fillTo_len, mkTo_len]; omega) | grind) (by first | rfl | exact outcomeC_eq _ | exact datumC_eq _ | exact coreC_eq _) | exact congrArg (Ob.arr true _) (mkTo_step (by first | omega | (simp only [fillTo_len, mkTo_len]; omega) | grind) (by grind [mkS])) | grind [mkS]))


def Tc_markDatumS_sLa (x : Datum) (n : Int) (x0 : SV) (x1 : SV) (x2 : Ob) : St := St.mk (regsOf 42 [(0, AV.sv (SV.one (AC.ref 0))), (1, AV.sv x1), (5, AV.sv x0)]) [x2] 1 
def Lc_markDatumS_sLa (x : Datum) (n : Int) (k : Nat) : St := Tc_markDatumS_sLa x n (li (↑k : Int)) (li (n + (↑(sumBy cD (List.take k (Datum.items x))) : Int))) (Ob.arr true 4
 (List.map datumC (mkTo mkD cD (Datum.items x) n k))) 
def Ic_markDatumS_sLa (x : Datum) (n : Int) : Nat → St → Prop := Head (Lc_markDatumS_sLa x n) (fun k => k ≤ List.length (Datum.items x)) fun k => List.length (Datum.items x) - k 
def W0c_markDatumS_sLa (x : Datum) (n : Int) (x0 : SV) (x1 : Ob) : St := St.mk (regsOf 42 [(1, AV.sv x0)]) [x1] 1 
def Yc_markDatumS_sLa (x : Datum) (n : Int) : List (Prop × AEx × St) := [(True, AEx.exit 0, W0c_markDatumS_sLa x n (li (n + (↑(sumBy cD (Datum.items x)) : Int))) (Ob.arr true 4
 (List.map datumC (seqM mkD cD (Datum.items x) n))))]
theorem Hc_markDatumS_sLa {x : Datum} {n : Int} {k : Nat} {m : Nat} (h : (fun k => k ≤ List.length (Datum.items x)) k) (hm : (fun k => List.length (Datum.items x) - k) k = m) :
 Ic_markDatumS_sLa x n m (Lc_markDatumS_sLa x n k) := hm ▸ Head.mk h
theorem Ec_markDatumS_sLa {x : Datum} {n : Int} {k : Nat} {x0 : SV} {x1 : SV} {x2 : Ob} (h0 : x0 = (li (↑k : Int))) (h1 : x1 = (li (n + (↑(sumBy cD (List.take k (Datum.items x))) :
 Int)))) (h2 : x2 = (Ob.arr true 4 (List.map datumC (mkTo mkD cD (Datum.items x) n k)))) : Tc_markDatumS_sLa x n x0 x1 x2 = Lc_markDatumS_sLa x n k := by (rw [h0, h1, h2]; rfl)
theorem run_c_markDatumS_sLa (x : Datum) (n : Int) (k : Nat) : aexec Try.prog (loopAt Try.f84 0) (Lc_markDatumS_sLa x n k) [Orc.br [Orc.cells (datumF (List.getD (Datum.items x)
 (Int.toNat (↑k : Int)) default)), Orc.take [cI (n + (↑(sumBy cD (List.take k (Datum.items x))) : Int)), cI (Datum.number (List.getD (Datum.items x) (Int.toNat (↑k : Int))
 default)), cS (Datum.text (List.getD (Datum.items x) (Int.toNat (↑k : Int)) default)), Cell.list (List.map datumC (Datum.items (List.getD (Datum.items x) (Int.toNat (↑k : Int))
 default)))] (List.set (List.map datumC (mkTo mkD cD (Datum.items x) n k)) (Int.toNat (↑k : Int)) [cI (n + (↑(sumBy cD (List.take k (Datum.items x))) : Int)), cI (n + (↑(sumBy cD
 (List.take k (Datum.items x))) : Int) + 1), cS (Datum.text (List.getD (Datum.items x) (Int.toNat (↑k : Int)) default)), Cell.list (List.map datumC (Datum.items (List.getD
 (Datum.items x) (Int.toNat (↑k : Int)) default)))]) 0, Orc.call [Mode.rd] [] (AV.sv (ls (mText (n + (↑(sumBy cD (List.take k (Datum.items x))) : Int) + 1 + 1)))), Orc.take [cI (n
 + (↑(sumBy cD (List.take k (Datum.items x))) : Int)), cI (n + (↑(sumBy cD (List.take k (Datum.items x))) : Int) + 1), cS (Datum.text (List.getD (Datum.items x) (Int.toNat (↑k :
 Int)) default)), Cell.list (List.map datumC (Datum.items (List.getD (Datum.items x) (Int.toNat (↑k : Int)) default)))] (List.set (List.map datumC (mkTo mkD cD (Datum.items x) n
 k)) (Int.toNat (↑k : Int)) [cI (n + (↑(sumBy cD (List.take k (Datum.items x))) : Int)), cI (n + (↑(sumBy cD (List.take k (Datum.items x))) : Int) + 1), cS (mText (n + (↑(sumBy cD
 (List.take k (Datum.items x))) : Int) + 1 + 1)), Cell.list (List.map datumC (Datum.items (List.getD (Datum.items x) (Int.toNat (↑k : Int)) default)))]) 0, Orc.sub, Orc.subcall [cI
 (n + (↑(sumBy cD (List.take k (Datum.items x))) : Int)), cI (n + (↑(sumBy cD (List.take k (Datum.items x))) : Int) + 1), cS (mText (n + (↑(sumBy cD (List.take k (Datum.items x)))
 : Int) + 1 + 1)), Cell.list (List.map datumC (Datum.items (List.getD (Datum.items x) (Int.toNat (↑k : Int)) default)))] (List.map datumC (Datum.items (List.getD (Datum.items x)
 (Int.toNat (↑k : Int)) default))) 4, Orc.call [Mode.own true 4, Mode.rd] [Ob.arr true 4 (List.map datumC (seqM mkD cD (Datum.items (List.getD (Datum.items x) (Int.toNat (↑k :
 Int)) default)) (n + (↑(sumBy cD (List.take k (Datum.items x))) : Int) + 1 + 1 + 1)))] (AV.sv (li (n + (↑(sumBy cD (List.take k (Datum.items x))) : Int) + 1 + 1 + 1 + (↑(sumBy cD
 (Datum.items (List.getD (Datum.items x) (Int.toNat (↑k : Int)) default))) : Int)))), Orc.ghost (Ghost.sel [0] [0, 1, 5]), Orc.goto (List.length (Datum.items x) - (k + 1))
 (Lc_markDatumS_sLa x n (k + 1))] [Orc.ghost (Ghost.sel [0] [1]), Orc.out 0]] (loopK (Ic_markDatumS_sLa x n) (Yc_markDatumS_sLa x n) (List.length (Datum.items x) - k)) =
 (List.length (List.map datumC (mkTo mkD cD (Datum.items x) n k)) ≤ 9223372036854775807 → (decide ((↑k : Int) < (↑(List.length (List.map datumC (mkTo mkD cD (Datum.items x) n k)))
 : Int)) = true → (0 ≤ (↑k : Int) ∧ Int.toNat (↑k : Int) < List.length (List.map datumC (mkTo mkD cD (Datum.items x) n k))) ∧ (List.map datumC (mkTo mkD cD (Datum.items x) n
 k))[Int.toNat (↑k : Int)]? = some (datumF (List.getD (Datum.items x) (Int.toNat (↑k : Int)) default)) ∧ rng IntKind.i64 (n + (↑(sumBy cD (List.take k (Datum.items x))) : Int) + 1)
 ∧ (0 ≤ (↑k : Int) ∧ Int.toNat (↑k : Int) < List.length (List.set (List.map datumC (mkTo mkD cD (Datum.items x) n k)) (Int.toNat (↑k : Int)) [cI (n + (↑(sumBy cD (List.take k
 (Datum.items x))) : Int)), cI (Datum.number (List.getD (Datum.items x) (Int.toNat (↑k : Int)) default)), cS (Datum.text (List.getD (Datum.items x) (Int.toNat (↑k : Int))
 default)), Cell.list (List.map datumC (Datum.items (List.getD (Datum.items x) (Int.toNat (↑k : Int)) default)))])) ∧ (List.set (List.map datumC (mkTo mkD cD (Datum.items x) n k))
 (Int.toNat (↑k : Int)) [cI (n + (↑(sumBy cD (List.take k (Datum.items x))) : Int)), cI (Datum.number (List.getD (Datum.items x) (Int.toNat (↑k : Int)) default)), cS (Datum.text
 (List.getD (Datum.items x) (Int.toNat (↑k : Int)) default)), Cell.list (List.map datumC (Datum.items (List.getD (Datum.items x) (Int.toNat (↑k : Int)) default)))])[Int.toNat (↑k :
 Int)]? = some [cI (n + (↑(sumBy cD (List.take k (Datum.items x))) : Int)), cI (Datum.number (List.getD (Datum.items x) (Int.toNat (↑k : Int)) default)), cS (Datum.text (List.getD
 (Datum.items x) (Int.toNat (↑k : Int)) default)), Cell.list (List.map datumC (Datum.items (List.getD (Datum.items x) (Int.toNat (↑k : Int)) default)))] ∧ List.set (List.set
 (List.map datumC (mkTo mkD cD (Datum.items x) n k)) (Int.toNat (↑k : Int)) [cI (n + (↑(sumBy cD (List.take k (Datum.items x))) : Int)), cI (Datum.number (List.getD (Datum.items x)
 (Int.toNat (↑k : Int)) default)), cS (Datum.text (List.getD (Datum.items x) (Int.toNat (↑k : Int)) default)), Cell.list (List.map datumC (Datum.items (List.getD (Datum.items x)
 (Int.toNat (↑k : Int)) default)))]) (Int.toNat (↑k : Int)) [cI (n + (↑(sumBy cD (List.take k (Datum.items x))) : Int)), cI (n + (↑(sumBy cD (List.take k (Datum.items x))) : Int) +
 1), cS (Datum.text (List.getD (Datum.items x) (Int.toNat (↑k : Int)) default)), Cell.list (List.map datumC (Datum.items (List.getD (Datum.items x) (Int.toNat (↑k : Int))
 default)))] = List.set (List.map datumC (mkTo mkD cD (Datum.items x) n k)) (Int.toNat (↑k : Int)) [cI (n + (↑(sumBy cD (List.take k (Datum.items x))) : Int)), cI (n + (↑(sumBy cD
 (List.take k (Datum.items x))) : Int) + 1), cS (Datum.text (List.getD (Datum.items x) (Int.toNat (↑k : Int)) default)), Cell.list (List.map datumC (Datum.items (List.getD
 (Datum.items x) (Int.toNat (↑k : Int)) default)))] ∧ rng IntKind.i64 (n + (↑(sumBy cD (List.take k (Datum.items x))) : Int) + 1 + 1) ∧ CallOK Try.prog (85 : FuncId) [] [li (n +
 (↑(sumBy cD (List.take k (Datum.items x))) : Int) + 1 + 1)] [] (AV.sv (ls (mText (n + (↑(sumBy cD (List.take k (Datum.items x))) : Int) + 1 + 1)))) ∧ (0 ≤ (↑k : Int) ∧ Int.toNat
 (↑k : Int) < List.length (List.set (List.map datumC (mkTo mkD cD (Datum.items x) n k)) (Int.toNat (↑k : Int)) [cI (n + (↑(sumBy cD (List.take k (Datum.items x))) : Int)), cI (n +
 (↑(sumBy cD (List.take k (Datum.items x))) : Int) + 1), cS (Datum.text (List.getD (Datum.items x) (Int.toNat (↑k : Int)) default)), Cell.list (List.map datumC (Datum.items
 (List.getD (Datum.items x) (Int.toNat (↑k : Int)) default)))])) ∧ (List.set (List.map datumC (mkTo mkD cD (Datum.items x) n k)) (Int.toNat (↑k : Int)) [cI (n + (↑(sumBy cD
 (List.take k (Datum.items x))) : Int)), cI (n + (↑(sumBy cD (List.take k (Datum.items x))) : Int) + 1), cS (Datum.text (List.getD (Datum.items x) (Int.toNat (↑k : Int)) default)),
 Cell.list (List.map datumC (Datum.items (List.getD (Datum.items x) (Int.toNat (↑k : Int)) default)))])[Int.toNat (↑k : Int)]? = some [cI (n + (↑(sumBy cD (List.take k (Datum.items
 x))) : Int)), cI (n + (↑(sumBy cD (List.take k (Datum.items x))) : Int) + 1), cS (Datum.text (List.getD (Datum.items x) (Int.toNat (↑k : Int)) default)), Cell.list (List.map
 datumC (Datum.items (List.getD (Datum.items x) (Int.toNat (↑k : Int)) default)))] ∧ List.set (List.set (List.map datumC (mkTo mkD cD (Datum.items x) n k)) (Int.toNat (↑k : Int))
 [cI (n + (↑(sumBy cD (List.take k (Datum.items x))) : Int)), cI (n + (↑(sumBy cD (List.take k (Datum.items x))) : Int) + 1), cS (Datum.text (List.getD (Datum.items x) (Int.toNat
 (↑k : Int)) default)), Cell.list (List.map datumC (Datum.items (List.getD (Datum.items x) (Int.toNat (↑k : Int)) default)))]) (Int.toNat (↑k : Int)) [cI (n + (↑(sumBy cD
 (List.take k (Datum.items x))) : Int)), cI (n + (↑(sumBy cD (List.take k (Datum.items x))) : Int) + 1), cS (mText (n + (↑(sumBy cD (List.take k (Datum.items x))) : Int) + 1 + 1)),
 Cell.list (List.map datumC (Datum.items (List.getD (Datum.items x) (Int.toNat (↑k : Int)) default)))] = List.set (List.map datumC (mkTo mkD cD (Datum.items x) n k)) (Int.toNat (↑k
 : Int)) [cI (n + (↑(sumBy cD (List.take k (Datum.items x))) : Int)), cI (n + (↑(sumBy cD (List.take k (Datum.items x))) : Int) + 1), cS (mText (n + (↑(sumBy cD (List.take k
 (Datum.items x))) : Int) + 1 + 1)), Cell.list (List.map datumC (Datum.items (List.getD (Datum.items x) (Int.toNat (↑k : Int)) default)))] ∧ rng IntKind.i64 (n + (↑(sumBy cD
 (List.take k (Datum.items x))) : Int) + 1 + 1 + 1) ∧ (0 ≤ (↑k : Int) ∧ Int.toNat (↑k : Int) < List.length (List.set (List.map datumC (mkTo mkD cD (Datum.items x) n k)) (Int.toNat
 (↑k : Int)) [cI (n + (↑(sumBy cD (List.take k (Datum.items x))) : Int)), cI (n + (↑(sumBy cD (List.take k (Datum.items x))) : Int) + 1), cS (mText (n + (↑(sumBy cD (List.take k
 (Datum.items x))) : Int) + 1 + 1)), Cell.list (List.map datumC (Datum.items (List.getD (Datum.items x) (Int.toNat (↑k : Int)) default)))])) ∧ Int.toNat (↑k : Int) < List.length
 (List.set (List.map datumC (mkTo mkD cD (Datum.items x) n k)) (Int.toNat (↑k : Int)) [cI (n + (↑(sumBy cD (List.take k (Datum.items x))) : Int)), cI (n + (↑(sumBy cD (List.take k
 (Datum.items x))) : Int) + 1), cS (mText (n + (↑(sumBy cD (List.take k (Datum.items x))) : Int) + 1 + 1)), Cell.list (List.map datumC (Datum.items (List.getD (Datum.items x)
 (Int.toNat (↑k : Int)) default)))]) ∧ (List.set (List.map datumC (mkTo mkD cD (Datum.items x) n k)) (Int.toNat (↑k : Int)) [cI (n + (↑(sumBy cD (List.take k (Datum.items x))) :
 Int)), cI (n + (↑(sumBy cD (List.take k (Datum.items x))) : Int) + 1), cS (mText (n + (↑(sumBy cD (List.take k (Datum.items x))) : Int) + 1 + 1)), Cell.list (List.map datumC
 (Datum.items (List.getD (Datum.items x) (Int.toNat (↑k : Int)) default)))])[Int.toNat (↑k : Int)]? = some [cI (n + (↑(sumBy cD (List.take k (Datum.items x))) : Int)), cI (n +
 (↑(sumBy cD (List.take k (Datum.items x))) : Int) + 1), cS (mText (n + (↑(sumBy cD (List.take k (Datum.items x))) : Int) + 1 + 1)), Cell.list (List.map datumC (Datum.items
 (List.getD (Datum.items x) (Int.toNat (↑k : Int)) default)))] ∧ some (Cell.list (List.map datumC (Datum.items (List.getD (Datum.items x) (Int.toNat (↑k : Int)) default)))) = some
 (Cell.list (List.map datumC (Datum.items (List.getD (Datum.items x) (Int.toNat (↑k : Int)) default)))) ∧ (∀ (x_1 : List Cell), x_1 ∈ List.map datumC (Datum.items (List.getD
 (Datum.items x) (Int.toNat (↑k : Int)) default)) → List.length x_1 = 4) ∧ CallOK Try.prog (84 : FuncId) [Ob.arr true 4 (List.map datumC (Datum.items (List.getD (Datum.items x)
 (Int.toNat (↑k : Int)) default)))] [SV.one (AC.ref 0), li (n + (↑(sumBy cD (List.take k (Datum.items x))) : Int) + 1 + 1 + 1)] [Ob.arr true 4 (List.map datumC (seqM mkD cD
 (Datum.items (List.getD (Datum.items x) (Int.toNat (↑k : Int)) default)) (n + (↑(sumBy cD (List.take k (Datum.items x))) : Int) + 1 + 1 + 1)))] (AV.sv (li (n + (↑(sumBy cD
 (List.take k (Datum.items x))) : Int) + 1 + 1 + 1 + (↑(sumBy cD (Datum.items (List.getD (Datum.items x) (Int.toNat (↑k : Int)) default))) : Int)))) ∧ rng IntKind.i64 ((↑k : Int) +
 1) ∧ List.length (Datum.items x) - (k + 1) < List.length (Datum.items x) - k ∧ Tc_markDatumS_sLa x n (li ((↑k : Int) + 1)) (li (n + (↑(sumBy cD (List.take k (Datum.items x))) :
 Int) + 1 + 1 + 1 + (↑(sumBy cD (Datum.items (List.getD (Datum.items x) (Int.toNat (↑k : Int)) default))) : Int))) (Ob.arr true 4 (List.set (List.set (List.map datumC (mkTo mkD cD
 (Datum.items x) n k)) (Int.toNat (↑k : Int)) [cI (n + (↑(sumBy cD (List.take k (Datum.items x))) : Int)), cI (n + (↑(sumBy cD (List.take k (Datum.items x))) : Int) + 1), cS (mText
 (n + (↑(sumBy cD (List.take k (Datum.items x))) : Int) + 1 + 1)), Cell.list (List.map datumC (Datum.items (List.getD (Datum.items x) (Int.toNat (↑k : Int)) default)))]) (Int.toNat
 (↑k : Int)) [cI (n + (↑(sumBy cD (List.take k (Datum.items x))) : Int)), cI (n + (↑(sumBy cD (List.take k (Datum.items x))) : Int) + 1), cS (mText (n + (↑(sumBy cD (List.take k
 (Datum.items x))) : Int) + 1 + 1)), Cell.list (List.map datumC (seqM mkD cD (Datum.items (List.getD (Datum.items x) (Int.toNat (↑k : Int)) default)) (n + (↑(sumBy cD (List.take k
 (Datum.items x))) : Int) + 1 + 1 + 1)))])) = Lc_markDatumS_sLa x n (k + 1) ∧ Ic_markDatumS_sLa x n (List.length (Datum.items x) - (k + 1)) (Lc_markDatumS_sLa x n (k + 1))) ∧
 (decide ((↑k : Int) < (↑(List.length (List.map datumC (mkTo mkD cD (Datum.items x) n k))) : Int)) = false → True ∧ W0c_markDatumS_sLa x n (li (n + (↑(sumBy cD (List.take k
 (Datum.items x))) : Int))) (Ob.arr true 4 (List.map datumC (mkTo mkD cD (Datum.items x) n k))) = W0c_markDatumS_sLa x n (li (n + (↑(sumBy cD (Datum.items x)) : Int))) (Ob.arr true
 4 (List.map datumC (seqM mkD cD (Datum.items x) n))))) := by kernel_rfl
theorem Sc_markDatumS_sLa (x : Datum) (n : Int) (h0 : 0 ≤ n) (h : n + (↑(sumBy cD (Datum.items x)) : Int) ≤ 2147483647) (ih : ∀ (z : Datum), z ∈ Datum.items x → ∀ (n : Int), 0 ≤ n
 → n + (↑(sumBy cD (Datum.items z)) : Int) ≤ 2147483647 → CallOK Try.prog (84 : FuncId) [Ob.arr true 4 (List.map datumC (Datum.items z))] [SV.one (AC.ref 0), li n] [Ob.arr true 4
 (List.map datumC (seqM mkD cD (Datum.items z) n))] (AV.sv (li (n + (↑(sumBy cD (Datum.items z)) : Int)))))  : LoopSem Try.prog (loopAt Try.f84 0) (Ic_markDatumS_sLa x n)
 (Yc_markDatumS_sLa x n) := by
  refine LoopSem.ofHead wide fun k h => ⟨_, _, run_c_markDatumS_sLa x n k, ?_⟩
  have g0 := sumBy_takeLe cD x.items (k + 1)
  with_reducible repeat' (first | apply And.intro | (intro; skip) | apply Hc_markDatumS_sLa | apply Ec_markDatumS_sLa | apply c_markText | apply ih)
  all_goals (try simp only [size_list, List.length_map, Int.toNat_natCast, rng64, obsEq_iff, List.length_append, List.length_replicate, fillTo_len, decide_eq_true_eq, decide_eq_false_iff_not, ne_eq, lb_inj, li_inj, ls_inj, mk_toArray, tx_mkS, mkS_inj, size_mkS, mkTo_len, mkTo_zero, cOne_sum, seqM_len, List.length_set, List.set_set, List.take_zero, sumBy, Int.natCast_zero, Int.add_zero] at *)
  all_goals (try (first | with_reducible rfl | omega | assumption | exact getC (by first | omega | (simp only [fillTo_len, mkTo_len]; omega) | grind) rfl | exact outcomeGet (by first | omega | (simp only [fillTo_len, mkTo_len]; omega) | grind) | exact datumGet (by first | omega | (simp only [fillTo_len, mkTo_len]; omega) | grind) | exact coreGet (by first | omega | (simp only [fillTo_len, mkTo_len]; omega) | grind) | exact congrArg (Ob.arr true _) (fill_step (by first | omega | (simp only [fillTo_len, mkTo_len]; omega) | grind) (by first | rfl | exact outcomeC_eq _ | exact datumC_eq _ | exact coreC_eq _)) | exact congrArg (Ob.arr true _) (fill_init (by first | rfl | exact outcomeC_eq _ | exact datumC_eq _ | exact coreC_eq _)) | exact set_row (by simp only [List.length_map, List.length_set, mkTo_len]; omega) | exact (by first | exact rowLen intC_len (by assumption) | exact rowLen strC_len (by assumption) | exact rowLen outcomeC_len (by assumption) | exact rowLen datumC_len (by assumption) | exact rowLen coreC_len (by assumption)) | exact mkTo_row (by first | omega | (simp only [fillTo_len, mkTo_len]; omega) | grind) (by first | rfl | exact outcomeC_eq _ | exact datumC_eq _ | exact coreC_eq _) | exact congrArg (Ob.arr true _) (mkTo_step (by first | omega | (simp only [fillTo_len, mkTo_len]; omega) | grind) (by grind [sumBy_step, getD_mem', cD_eq, mkD_C, mkTo_all])) | grind [sumBy_step, getD_mem', cD_eq, mkD_C, mkTo_all]))
theorem run_c_markDatumS_s (x : Datum) (n : Int) : aexec Try.prog (Option.getD (Func.body Try.f84) Code.skip) (entry [Ob.arr true 4 (List.map datumC (Datum.items x))] [SV.one
 (AC.ref 0), li n] 42) [Orc.ghost (Ghost.sel [0] [0, 1, 5]), Orc.loop (List.length (Datum.items x) - 0) (Lc_markDatumS_sLa x n 0) (Ic_markDatumS_sLa x n) [(True, AEx.exit 0,
 W0c_markDatumS_sLa x n (li (n + (↑(sumBy cD (Datum.items x)) : Int))) (Ob.arr true 4 (List.map datumC (seqM mkD cD (Datum.items x) n))), [Orc.fin []])]] (finK Try.prog
 [ResultVar.tmp 4] [Ob.arr true 4 (List.map datumC (seqM mkD cD (Datum.items x) n))] (AV.sv (li (n + (↑(sumBy cD (Datum.items x)) : Int))))) = (Tc_markDatumS_sLa x n (li 0) (li n)
 (Ob.arr true 4 (List.map datumC (Datum.items x))) = Lc_markDatumS_sLa x n 0 ∧ Ic_markDatumS_sLa x n (List.length (Datum.items x) - 0) (Lc_markDatumS_sLa x n 0) ∧ LoopSem Try.prog
 (loopAt Try.f84 0) (Ic_markDatumS_sLa x n) (Yc_markDatumS_sLa x n) ∧ (True → ObsEq [Ob.arr true 4 (List.map datumC (seqM mkD cD (Datum.items x) n))] [Ob.arr true 4 (List.map
 datumC (seqM mkD cD (Datum.items x) n))] ∧ AV.sv (li (n + (↑(sumBy cD (Datum.items x)) : Int))) = AV.sv (li (n + (↑(sumBy cD (Datum.items x)) : Int)))) ∧ True) := by kernel_rfl
theorem c_markDatumS_s (x : Datum) (n : Int) (h0 : 0 ≤ n) (h : n + sumBy cD x.items ≤ 2147483647) (ih : ∀ z ∈ x.items, ∀ (n : Int) (h0 : 0 ≤ n) (h : n + sumBy cD z.items ≤
 2147483647), CallOK Try.prog 84 [.arr true 4 (z.items.map datumC)] [.one (.ref 0), li n] [.arr true 4 ((seqM mkD cD z.items n).map datumC)] (.sv (li (n + sumBy cD z.items))))  :
 CallOK Try.prog 84 [.arr true 4 (x.items.map datumC)] [.one (.ref 0), li n] [.arr true 4 ((seqM mkD cD x.items n).map datumC)] (.sv (li (n + sumBy cD x.items))) := by
  refine CallOK.ofRun wide (run_c_markDatumS_s x n) Try.call84 Try.func84 rfl rfl rfl ?_
  with_reducible repeat' (first | apply And.intro | (intro; skip) | apply Hc_markDatumS_sLa | apply Ec_markDatumS_sLa | apply Sc_markDatumS_sLa | apply c_markText)
  all_goals (try simp only [size_list, List.length_map, Int.toNat_natCast, rng64, obsEq_iff, List.length_append, List.length_replicate, fillTo_len, decide_eq_true_eq, decide_eq_false_iff_not, ne_eq, lb_inj, li_inj, ls_inj, mk_toArray, tx_mkS, mkS_inj, size_mkS, mkTo_len, mkTo_zero, cOne_sum, seqM_len, List.length_set, List.set_set, List.take_zero, sumBy, Int.natCast_zero, Int.add_zero] at *)
  all_goals (try (first | with_reducible rfl | omega | assumption | exact getC (by first | omega | (simp only [fillTo_len, mkTo_len]; omega) | grind) rfl | exact outcomeGet (by first | omega | (simp only [fillTo_len, mkTo_len]; omega) | grind) | exact datumGet (by first | omega | (simp only [fillTo_len, mkTo_len]; omega) | grind) | exact coreGet (by first | omega | (simp only [fillTo_len, mkTo_len]; omega) | grind) | exact congrArg (Ob.arr true _) (fill_step (by first | omega | (simp only [fillTo_len, mkTo_len]; omega) | grind) (by first | rfl | exact outcomeC_eq _ | exact datumC_eq _ | exact coreC_eq _)) | exact congrArg (Ob.arr true _) (fill_init (by first | rfl | exact outcomeC_eq _ | exact datumC_eq _ | exact coreC_eq _)) | exact set_row (by simp only [List.length_map, List.length_set, mkTo_len]; omega) | exact (by first | exact rowLen intC_len (by assumption) | exact rowLen strC_len (by assumption) | exact rowLen outcomeC_len (by assumption) | exact rowLen datumC_len (by assumption) | exact rowLen coreC_len (by assumption)) | exact mkTo_row (by first | omega | (simp only [fillTo_len, mkTo_len]; omega) | grind) (by first | rfl | exact outcomeC_eq _ | exact datumC_eq _ | exact coreC_eq _) | exact congrArg (Ob.arr true _) (mkTo_step (by first | omega | (simp only [fillTo_len, mkTo_len]; omega) | grind) (by grind [mkTo_all])) | grind [mkTo_all]))

theorem c_markDatumS (x : Datum) : ∀ (n : Int) (h0 : 0 ≤ n) (h : n + sumBy cD x.items ≤ 2147483647), CallOK Try.prog 84 [.arr true 4 (x.items.map datumC)] [.one (.ref 0), li n] [.arr true 4 ((seqM mkD cD x.items n).map datumC)] (.sv (li (n + sumBy cD x.items))) := Datum.ind (P := fun x => ∀ (n : Int) (h0 : 0 ≤ n) (h : n + sumBy cD x.items ≤ 2147483647), CallOK Try.prog 84 [.arr true 4 (x.items.map datumC)] [.one (.ref 0), li n] [.arr true 4 ((seqM mkD cD x.items n).map datumC)] (.sv (li (n + sumBy cD x.items)))) (fun x ih n h0 h => c_markDatumS_s x n h0 h ih) x

theorem run_c_markDatum (x : Datum) (n : Int) : aexec Try.prog (Option.getD (Func.body Try.f72) Code.skip) (entry [Ob.arr true 4 (List.map datumC (Datum.items x))] [SV.agg [vI
 (Datum.kind x), vI (Datum.number x), vS (Datum.text x), AC.ref 0], li n] 10) [Orc.call [Mode.own true 4, Mode.rd] [Ob.arr true 4 (List.map datumC (seqM mkD cD (Datum.items x) n))]
 (AV.sv (li (n + (↑(sumBy cD (Datum.items x)) : Int)))), Orc.fin []] (finK Try.prog [ResultVar.tmp 4] [Ob.arr true 4 (List.map datumC (seqM mkD cD (Datum.items x) n))] (AV.sv (li
 (n + (↑(sumBy cD (Datum.items x)) : Int))))) = (CallOK Try.prog (84 : FuncId) [Ob.arr true 4 (List.map datumC (Datum.items x))] [SV.one (AC.ref 0), li n] [Ob.arr true 4 (List.map
 datumC (seqM mkD cD (Datum.items x) n))] (AV.sv (li (n + (↑(sumBy cD (Datum.items x)) : Int)))) ∧ ObsEq [Ob.arr true 4 (List.map datumC (seqM mkD cD (Datum.items x) n))] [Ob.arr
 true 4 (List.map datumC (seqM mkD cD (Datum.items x) n))] ∧ AV.sv (li (n + (↑(sumBy cD (Datum.items x)) : Int))) = AV.sv (li (n + (↑(sumBy cD (Datum.items x)) : Int)))) := by
 kernel_rfl
theorem c_markDatum (x : Datum) (n : Int) (h0 : 0 ≤ n) (h : n + sumBy cD x.items ≤ 2147483647)  : CallOK Try.prog 72 [.arr true 4 (x.items.map datumC)] [.agg [vI x.kind, vI
 x.number, vS x.text, .ref 0], li n] [.arr true 4 ((seqM mkD cD x.items n).map datumC)] (.sv (li (n + sumBy cD x.items))) := by
  refine CallOK.ofRun wide (run_c_markDatum x n) Try.call72 Try.func72 rfl rfl rfl ?_
  with_reducible repeat' (first | apply And.intro | (intro; skip) | apply c_markDatumS)
  all_goals (try simp only [size_list, List.length_map, Int.toNat_natCast, rng64, obsEq_iff, List.length_append, List.length_replicate, fillTo_len, decide_eq_true_eq, decide_eq_false_iff_not, ne_eq, lb_inj, li_inj, ls_inj, mk_toArray, tx_mkS, mkS_inj, size_mkS, mkTo_len, mkTo_zero, cOne_sum, seqM_len, List.length_set, List.set_set, List.take_zero, sumBy, Int.natCast_zero, Int.add_zero] at *)
  all_goals (try (first | with_reducible rfl | omega | assumption | exact getC (by first | omega | (simp only [fillTo_len, mkTo_len]; omega) | grind) rfl | exact outcomeGet (by first | omega | (simp only [fillTo_len, mkTo_len]; omega) | grind) | exact datumGet (by first | omega | (simp only [fillTo_len, mkTo_len]; omega) | grind) | exact coreGet (by first | omega | (simp only [fillTo_len, mkTo_len]; omega) | grind) | exact congrArg (Ob.arr true _) (fill_step (by first | omega | (simp only [fillTo_len, mkTo_len]; omega) | grind) (by first | rfl | exact outcomeC_eq _ | exact datumC_eq _ | exact coreC_eq _)) | exact congrArg (Ob.arr true _) (fill_init (by first | rfl | exact outcomeC_eq _ | exact datumC_eq _ | exact coreC_eq _)) | exact set_row (by simp only [List.length_map, List.length_set, mkTo_len]; omega) | exact (by first | exact rowLen intC_len (by assumption) | exact rowLen strC_len (by assumption) | exact rowLen outcomeC_len (by assumption) | exact rowLen datumC_len (by assumption) | exact rowLen coreC_len (by assumption)) | exact mkTo_row (by first | omega | (simp only [fillTo_len, mkTo_len]; omega) | grind) (by first | rfl | exact outcomeC_eq _ | exact datumC_eq _ | exact coreC_eq _) | exact congrArg (Ob.arr true _) (mkTo_step (by first | omega | (simp only [fillTo_len, mkTo_len]; omega) | grind) (by grind)) | grind))


def Tc_markCoreS_sLa (x : Core) (n : Int) (x0 : SV) (x1 : SV) (x2 : Ob) : St := St.mk (regsOf 74 [(0, AV.sv (SV.one (AC.ref 0))), (1, AV.sv x1), (5, AV.sv x0)]) [x2] 1 
def Lc_markCoreS_sLa (x : Core) (n : Int) (k : Nat) : St := Tc_markCoreS_sLa x n (li (↑k : Int)) (li (n + (↑(sumBy cC (List.take k (Core.kids x))) : Int))) (Ob.arr true 8 (List.map
 coreC (mkTo mkC cC (Core.kids x) n k))) 
def Ic_markCoreS_sLa (x : Core) (n : Int) : Nat → St → Prop := Head (Lc_markCoreS_sLa x n) (fun k => k ≤ List.length (Core.kids x)) fun k => List.length (Core.kids x) - k 
def W0c_markCoreS_sLa (x : Core) (n : Int) (x0 : SV) (x1 : Ob) : St := St.mk (regsOf 74 [(1, AV.sv x0)]) [x1] 1 
def Yc_markCoreS_sLa (x : Core) (n : Int) : List (Prop × AEx × St) := [(True, AEx.exit 0, W0c_markCoreS_sLa x n (li (n + (↑(sumBy cC (Core.kids x)) : Int))) (Ob.arr true 8
 (List.map coreC (seqM mkC cC (Core.kids x) n))))]
theorem Hc_markCoreS_sLa {x : Core} {n : Int} {k : Nat} {m : Nat} (h : (fun k => k ≤ List.length (Core.kids x)) k) (hm : (fun k => List.length (Core.kids x) - k) k = m) :
 Ic_markCoreS_sLa x n m (Lc_markCoreS_sLa x n k) := hm ▸ Head.mk h
theorem Ec_markCoreS_sLa {x : Core} {n : Int} {k : Nat} {x0 : SV} {x1 : SV} {x2 : Ob} (h0 : x0 = (li (↑k : Int))) (h1 : x1 = (li (n + (↑(sumBy cC (List.take k (Core.kids x))) :
 Int)))) (h2 : x2 = (Ob.arr true 8 (List.map coreC (mkTo mkC cC (Core.kids x) n k)))) : Tc_markCoreS_sLa x n x0 x1 x2 = Lc_markCoreS_sLa x n k := by (rw [h0, h1, h2]; rfl)
theorem run_c_markCoreS_sLa (x : Core) (n : Int) (k : Nat) : aexec Try.prog (loopAt Try.f73 0) (Lc_markCoreS_sLa x n k) [Orc.br [Orc.cells (coreF (List.getD (Core.kids x)
 (Int.toNat (↑k : Int)) default)), Orc.take [cI (n + (↑(sumBy cC (List.take k (Core.kids x))) : Int)), cI (Core.number (List.getD (Core.kids x) (Int.toNat (↑k : Int)) default)),
 Cell.list (List.map intC (Core.params (List.getD (Core.kids x) (Int.toNat (↑k : Int)) default))), cI (Datum.kind (Core.datum (List.getD (Core.kids x) (Int.toNat (↑k : Int))
 default))), cI (Datum.number (Core.datum (List.getD (Core.kids x) (Int.toNat (↑k : Int)) default))), cS (Datum.text (Core.datum (List.getD (Core.kids x) (Int.toNat (↑k : Int))
 default))), Cell.list (List.map datumC (Datum.items (Core.datum (List.getD (Core.kids x) (Int.toNat (↑k : Int)) default)))), Cell.list (List.map coreC (Core.kids (List.getD
 (Core.kids x) (Int.toNat (↑k : Int)) default)))] (List.set (List.map coreC (mkTo mkC cC (Core.kids x) n k)) (Int.toNat (↑k : Int)) [cI (n + (↑(sumBy cC (List.take k (Core.kids
 x))) : Int)), cI (n + (↑(sumBy cC (List.take k (Core.kids x))) : Int) + 1), Cell.list (List.map intC (Core.params (List.getD (Core.kids x) (Int.toNat (↑k : Int)) default))), cI
 (Datum.kind (Core.datum (List.getD (Core.kids x) (Int.toNat (↑k : Int)) default))), cI (Datum.number (Core.datum (List.getD (Core.kids x) (Int.toNat (↑k : Int)) default))), cS
 (Datum.text (Core.datum (List.getD (Core.kids x) (Int.toNat (↑k : Int)) default))), Cell.list (List.map datumC (Datum.items (Core.datum (List.getD (Core.kids x) (Int.toNat (↑k :
 Int)) default)))), Cell.list (List.map coreC (Core.kids (List.getD (Core.kids x) (Int.toNat (↑k : Int)) default)))]) 0, Orc.sub, Orc.subcall [cI (n + (↑(sumBy cC (List.take k
 (Core.kids x))) : Int)), cI (n + (↑(sumBy cC (List.take k (Core.kids x))) : Int) + 1), Cell.list (List.map intC (Core.params (List.getD (Core.kids x) (Int.toNat (↑k : Int))
 default))), cI (Datum.kind (Core.datum (List.getD (Core.kids x) (Int.toNat (↑k : Int)) default))), cI (Datum.number (Core.datum (List.getD (Core.kids x) (Int.toNat (↑k : Int))
 default))), cS (Datum.text (Core.datum (List.getD (Core.kids x) (Int.toNat (↑k : Int)) default))), Cell.list (List.map datumC (Datum.items (Core.datum (List.getD (Core.kids x)
 (Int.toNat (↑k : Int)) default)))), Cell.list (List.map coreC (Core.kids (List.getD (Core.kids x) (Int.toNat (↑k : Int)) default)))] (List.map intC (Core.params (List.getD
 (Core.kids x) (Int.toNat (↑k : Int)) default))) 1, Orc.call [Mode.own true 1, Mode.rd] [Ob.arr true 1 (List.map intC (seqM mkI cOne (Core.params (List.getD (Core.kids x)
 (Int.toNat (↑k : Int)) default)) (n + (↑(sumBy cC (List.take k (Core.kids x))) : Int) + 1 + 1)))] (AV.sv (li (n + (↑(sumBy cC (List.take k (Core.kids x))) : Int) + 1 + 1 +
 (↑(List.length (Core.params (List.getD (Core.kids x) (Int.toNat (↑k : Int)) default))) : Int)))), Orc.take [cI (n + (↑(sumBy cC (List.take k (Core.kids x))) : Int)), cI (n +
 (↑(sumBy cC (List.take k (Core.kids x))) : Int) + 1), Cell.list (List.map intC (seqM mkI cOne (Core.params (List.getD (Core.kids x) (Int.toNat (↑k : Int)) default)) (n + (↑(sumBy
 cC (List.take k (Core.kids x))) : Int) + 1 + 1))), cI (Datum.kind (Core.datum (List.getD (Core.kids x) (Int.toNat (↑k : Int)) default))), cI (Datum.number (Core.datum (List.getD
 (Core.kids x) (Int.toNat (↑k : Int)) default))), cS (Datum.text (Core.datum (List.getD (Core.kids x) (Int.toNat (↑k : Int)) default))), Cell.list (List.map datumC (Datum.items
 (Core.datum (List.getD (Core.kids x) (Int.toNat (↑k : Int)) default)))), Cell.list (List.map coreC (Core.kids (List.getD (Core.kids x) (Int.toNat (↑k : Int)) default)))] (List.set
 (List.set (List.map coreC (mkTo mkC cC (Core.kids x) n k)) (Int.toNat (↑k : Int)) [cI (n + (↑(sumBy cC (List.take k (Core.kids x))) : Int)), cI (n + (↑(sumBy cC (List.take k
 (Core.kids x))) : Int) + 1), Cell.list (List.map intC (Core.params (List.getD (Core.kids x) (Int.toNat (↑k : Int)) default))), cI (Datum.kind (Core.datum (List.getD (Core.kids x)
 (Int.toNat (↑k : Int)) default))), cI (Datum.number (Core.datum (List.getD (Core.kids x) (Int.toNat (↑k : Int)) default))), cS (Datum.text (Core.datum (List.getD (Core.kids x)
 (Int.toNat (↑k : Int)) default))), Cell.list (List.map datumC (Datum.items (Core.datum (List.getD (Core.kids x) (Int.toNat (↑k : Int)) default)))), Cell.list (List.map coreC
 (Core.kids (List.getD (Core.kids x) (Int.toNat (↑k : Int)) default)))]) (Int.toNat (↑k : Int)) [cI (n + (↑(sumBy cC (List.take k (Core.kids x))) : Int)), cI (n + (↑(sumBy cC
 (List.take k (Core.kids x))) : Int) + 1), Cell.list (List.map intC (seqM mkI cOne (Core.params (List.getD (Core.kids x) (Int.toNat (↑k : Int)) default)) (n + (↑(sumBy cC
 (List.take k (Core.kids x))) : Int) + 1 + 1))), cI (n + (↑(sumBy cC (List.take k (Core.kids x))) : Int) + 1 + 1 + (↑(List.length (Core.params (List.getD (Core.kids x) (Int.toNat
 (↑k : Int)) default))) : Int)), cI (Datum.number (Core.datum (List.getD (Core.kids x) (Int.toNat (↑k : Int)) default))), cS (Datum.text (Core.datum (List.getD (Core.kids x)
 (Int.toNat (↑k : Int)) default))), Cell.list (List.map datumC (Datum.items (Core.datum (List.getD (Core.kids x) (Int.toNat (↑k : Int)) default)))), Cell.list (List.map coreC
 (Core.kids (List.getD (Core.kids x) (Int.toNat (↑k : Int)) default)))]) 0, Orc.take [cI (n + (↑(sumBy cC (List.take k (Core.kids x))) : Int)), cI (n + (↑(sumBy cC (List.take k
 (Core.kids x))) : Int) + 1), Cell.list (List.map intC (seqM mkI cOne (Core.params (List.getD (Core.kids x) (Int.toNat (↑k : Int)) default)) (n + (↑(sumBy cC (List.take k
 (Core.kids x))) : Int) + 1 + 1))), cI (n + (↑(sumBy cC (List.take k (Core.kids x))) : Int) + 1 + 1 + (↑(List.length (Core.params (List.getD (Core.kids x) (Int.toNat (↑k : Int))
 default))) : Int)), cI (Datum.number (Core.datum (List.getD (Core.kids x) (Int.toNat (↑k : Int)) default))), cS (Datum.text (Core.datum (List.getD (Core.kids x) (Int.toNat (↑k :
 Int)) default))), Cell.list (List.map datumC (Datum.items (Core.datum (List.getD (Core.kids x) (Int.toNat (↑k : Int)) default)))), Cell.list (List.map coreC (Core.kids (List.getD
 (Core.kids x) (Int.toNat (↑k : Int)) default)))] (List.set (List.set (List.map coreC (mkTo mkC cC (Core.kids x) n k)) (Int.toNat (↑k : Int)) [cI (n + (↑(sumBy cC (List.take k
 (Core.kids x))) : Int)), cI (n + (↑(sumBy cC (List.take k (Core.kids x))) : Int) + 1), Cell.list (List.map intC (Core.params (List.getD (Core.kids x) (Int.toNat (↑k : Int))
 default))), cI (Datum.kind (Core.datum (List.getD (Core.kids x) (Int.toNat (↑k : Int)) default))), cI (Datum.number (Core.datum (List.getD (Core.kids x) (Int.toNat (↑k : Int))
 default))), cS (Datum.text (Core.datum (List.getD (Core.kids x) (Int.toNat (↑k : Int)) default))), Cell.list (List.map datumC (Datum.items (Core.datum (List.getD (Core.kids x)
 (Int.toNat (↑k : Int)) default)))), Cell.list (List.map coreC (Core.kids (List.getD (Core.kids x) (Int.toNat (↑k : Int)) default)))]) (Int.toNat (↑k : Int)) [cI (n + (↑(sumBy cC
 (List.take k (Core.kids x))) : Int)), cI (n + (↑(sumBy cC (List.take k (Core.kids x))) : Int) + 1), Cell.list (List.map intC (seqM mkI cOne (Core.params (List.getD (Core.kids x)
 (Int.toNat (↑k : Int)) default)) (n + (↑(sumBy cC (List.take k (Core.kids x))) : Int) + 1 + 1))), cI (n + (↑(sumBy cC (List.take k (Core.kids x))) : Int) + 1 + 1 + (↑(List.length
 (Core.params (List.getD (Core.kids x) (Int.toNat (↑k : Int)) default))) : Int)), cI (n + (↑(sumBy cC (List.take k (Core.kids x))) : Int) + 1 + 1 + (↑(List.length (Core.params
 (List.getD (Core.kids x) (Int.toNat (↑k : Int)) default))) : Int) + 1), cS (Datum.text (Core.datum (List.getD (Core.kids x) (Int.toNat (↑k : Int)) default))), Cell.list (List.map
 datumC (Datum.items (Core.datum (List.getD (Core.kids x) (Int.toNat (↑k : Int)) default)))), Cell.list (List.map coreC (Core.kids (List.getD (Core.kids x) (Int.toNat (↑k : Int))
 default)))]) 0, Orc.call [Mode.rd] [] (AV.sv (ls (mText (n + (↑(sumBy cC (List.take k (Core.kids x))) : Int) + 1 + 1 + (↑(List.length (Core.params (List.getD (Core.kids x)
 (Int.toNat (↑k : Int)) default))) : Int) + 1 + 1)))), Orc.take [cI (n + (↑(sumBy cC (List.take k (Core.kids x))) : Int)), cI (n + (↑(sumBy cC (List.take k (Core.kids x))) : Int) +
 1), Cell.list (List.map intC (seqM mkI cOne (Core.params (List.getD (Core.kids x) (Int.toNat (↑k : Int)) default)) (n + (↑(sumBy cC (List.take k (Core.kids x))) : Int) + 1 + 1))),
 cI (n + (↑(sumBy cC (List.take k (Core.kids x))) : Int) + 1 + 1 + (↑(List.length (Core.params (List.getD (Core.kids x) (Int.toNat (↑k : Int)) default))) : Int)), cI (n + (↑(sumBy
 cC (List.take k (Core.kids x))) : Int) + 1 + 1 + (↑(List.length (Core.params (List.getD (Core.kids x) (Int.toNat (↑k : Int)) default))) : Int) + 1), cS (Datum.text (Core.datum
 (List.getD (Core.kids x) (Int.toNat (↑k : Int)) default))), Cell.list (List.map datumC (Datum.items (Core.datum (List.getD (Core.kids x) (Int.toNat (↑k : Int)) default)))),
 Cell.list (List.map coreC (Core.kids (List.getD (Core.kids x) (Int.toNat (↑k : Int)) default)))] (List.set (List.set (List.map coreC (mkTo mkC cC (Core.kids x) n k)) (Int.toNat
 (↑k : Int)) [cI (n + (↑(sumBy cC (List.take k (Core.kids x))) : Int)), cI (n + (↑(sumBy cC (List.take k (Core.kids x))) : Int) + 1), Cell.list (List.map intC (Core.params
 (List.getD (Core.kids x) (Int.toNat (↑k : Int)) default))), cI (Datum.kind (Core.datum (List.getD (Core.kids x) (Int.toNat (↑k : Int)) default))), cI (Datum.number (Core.datum
 (List.getD (Core.kids x) (Int.toNat (↑k : Int)) default))), cS (Datum.text (Core.datum (List.getD (Core.kids x) (Int.toNat (↑k : Int)) default))), Cell.list (List.map datumC
 (Datum.items (Core.datum (List.getD (Core.kids x) (Int.toNat (↑k : Int)) default)))), Cell.list (List.map coreC (Core.kids (List.getD (Core.kids x) (Int.toNat (↑k : Int))
 default)))]) (Int.toNat (↑k : Int)) [cI (n + (↑(sumBy cC (List.take k (Core.kids x))) : Int)), cI (n + (↑(sumBy cC (List.take k (Core.kids x))) : Int) + 1), Cell.list (List.map
 intC (seqM mkI cOne (Core.params (List.getD (Core.kids x) (Int.toNat (↑k : Int)) default)) (n + (↑(sumBy cC (List.take k (Core.kids x))) : Int) + 1 + 1))), cI (n + (↑(sumBy cC
 (List.take k (Core.kids x))) : Int) + 1 + 1 + (↑(List.length (Core.params (List.getD (Core.kids x) (Int.toNat (↑k : Int)) default))) : Int)), cI (n + (↑(sumBy cC (List.take k
 (Core.kids x))) : Int) + 1 + 1 + (↑(List.length (Core.params (List.getD (Core.kids x) (Int.toNat (↑k : Int)) default))) : Int) + 1), cS (mText (n + (↑(sumBy cC (List.take k
 (Core.kids x))) : Int) + 1 + 1 + (↑(List.length (Core.params (List.getD (Core.kids x) (Int.toNat (↑k : Int)) default))) : Int) + 1 + 1)), Cell.list (List.map datumC (Datum.items
 (Core.datum (List.getD (Core.kids x) (Int.toNat (↑k : Int)) default)))), Cell.list (List.map coreC (Core.kids (List.getD (Core.kids x) (Int.toNat (↑k : Int)) default)))]) 0,
 Orc.sub, Orc.subcall [cI (n + (↑(sumBy cC (List.take k (Core.kids x))) : Int)), cI (n + (↑(sumBy cC (List.take k (Core.kids x))) : Int) + 1), Cell.list (List.map intC (seqM mkI
 cOne (Core.params (List.getD (Core.kids x) (Int.toNat (↑k : Int)) default)) (n + (↑(sumBy cC (List.take k (Core.kids x))) : Int) + 1 + 1))), cI (n + (↑(sumBy cC (List.take k
 (Core.kids x))) : Int) + 1 + 1 + (↑(List.length (Core.params (List.getD (Core.kids x) (Int.toNat (↑k : Int)) default))) : Int)), cI (n + (↑(sumBy cC (List.take k (Core.kids x))) :
 Int) + 1 + 1 + (↑(List.length (Core.params (List.getD (Core.kids x) (Int.toNat (↑k : Int)) default))) : Int) + 1), cS (mText (n + (↑(sumBy cC (List.take k (Core.kids x))) : Int) +
 1 + 1 + (↑(List.length (Core.params (List.getD (Core.kids x) (Int.toNat (↑k : Int)) default))) : Int) + 1 + 1)), Cell.list (List.map datumC (Datum.items (Core.datum (List.getD
 (Core.kids x) (Int.toNat (↑k : Int)) default)))), Cell.list (List.map coreC (Core.kids (List.getD (Core.kids x) (Int.toNat (↑k : Int)) default)))] (List.map datumC (Datum.items
 (Core.datum (List.getD (Core.kids x) (Int.toNat (↑k : Int)) default)))) 4, Orc.call [Mode.own true 4, Mode.rd] [Ob.arr true 4 (List.map datumC (seqM mkD cD (Datum.items
 (Core.datum (List.getD (Core.kids x) (Int.toNat (↑k : Int)) default))) (n + (↑(sumBy cC (List.take k (Core.kids x))) : Int) + 1 + 1 + (↑(List.length (Core.params (List.getD
 (Core.kids x) (Int.toNat (↑k : Int)) default))) : Int) + 1 + 1 + 1)))] (AV.sv (li (n + (↑(sumBy cC (List.take k (Core.kids x))) : Int) + 1 + 1 + (↑(List.length (Core.params
 (List.getD (Core.kids x) (Int.toNat (↑k : Int)) default))) : Int) + 1 + 1 + 1 + (↑(sumBy cD (Datum.items (Core.datum (List.getD (Core.kids x) (Int.toNat (↑k : Int)) default)))) :
 Int)))), Orc.sub, Orc.subcall [cI (n + (↑(sumBy cC (List.take k (Core.kids x))) : Int)), cI (n + (↑(sumBy cC (List.take k (Core.kids x))) : Int) + 1), Cell.list (List.map intC
 (seqM mkI cOne (Core.params (List.getD (Core.kids x) (Int.toNat (↑k : Int)) default)) (n + (↑(sumBy cC (List.take k (Core.kids x))) : Int) + 1 + 1))), cI (n + (↑(sumBy cC
 (List.take k (Core.kids x))) : Int) + 1 + 1 + (↑(List.length (Core.params (List.getD (Core.kids x) (Int.toNat (↑k : Int)) default))) : Int)), cI (n + (↑(sumBy cC (List.take k
 (Core.kids x))) : Int) + 1 + 1 + (↑(List.length (Core.params (List.getD (Core.kids x) (Int.toNat (↑k : Int)) default))) : Int) + 1), cS (mText (n + (↑(sumBy cC (List.take k
 (Core.kids x))) : Int) + 1 + 1 + (↑(List.length (Core.params (List.getD (Core.kids x) (Int.toNat (↑k : Int)) default))) : Int) + 1 + 1)), Cell.list (List.map datumC (seqM mkD cD
 (Datum.items (Core.datum (List.getD (Core.kids x) (Int.toNat (↑k : Int)) default))) (n + (↑(sumBy cC (List.take k (Core.kids x))) : Int) + 1 + 1 + (↑(List.length (Core.params
 (List.getD (Core.kids x) (Int.toNat (↑k : Int)) default))) : Int) + 1 + 1 + 1))), Cell.list (List.map coreC (Core.kids (List.getD (Core.kids x) (Int.toNat (↑k : Int)) default)))]
 (List.map coreC (Core.kids (List.getD (Core.kids x) (Int.toNat (↑k : Int)) default))) 8, Orc.call [Mode.own true 8, Mode.rd] [Ob.arr true 8 (List.map coreC (seqM mkC cC (Core.kids
 (List.getD (Core.kids x) (Int.toNat (↑k : Int)) default)) (n + (↑(sumBy cC (List.take k (Core.kids x))) : Int) + 1 + 1 + (↑(List.length (Core.params (List.getD (Core.kids x)
 (Int.toNat (↑k : Int)) default))) : Int) + 1 + 1 + 1 + (↑(sumBy cD (Datum.items (Core.datum (List.getD (Core.kids x) (Int.toNat (↑k : Int)) default)))) : Int))))] (AV.sv (li (n +
 (↑(sumBy cC (List.take k (Core.kids x))) : Int) + 1 + 1 + (↑(List.length (Core.params (List.getD (Core.kids x) (Int.toNat (↑k : Int)) default))) : Int) + 1 + 1 + 1 + (↑(sumBy cD
 (Datum.items (Core.datum (List.getD (Core.kids x) (Int.toNat (↑k : Int)) default)))) : Int) + (↑(sumBy cC (Core.kids (List.getD (Core.kids x) (Int.toNat (↑k : Int)) default))) :
 Int)))), Orc.ghost (Ghost.sel [0] [0, 1, 5]), Orc.goto (List.length (Core.kids x) - (k + 1)) (Lc_markCoreS_sLa x n (k + 1))] [Orc.ghost (Ghost.sel [0] [1]), Orc.out 0]] (loopK
 (Ic_markCoreS_sLa x n) (Yc_markCoreS_sLa x n) (List.length (Core.kids x) - k)) = (List.length (List.map coreC (mkTo mkC cC (Core.kids x) n k)) ≤ 9223372036854775807 → (decide ((↑k
 : Int) < (↑(List.length (List.map coreC (mkTo mkC cC (Core.kids x) n k))) : Int)) = true → (0 ≤ (↑k : Int) ∧ Int.toNat (↑k : Int) < List.length (List.map coreC (mkTo mkC cC
 (Core.kids x) n k))) ∧ (List.map coreC (mkTo mkC cC (Core.kids x) n k))[Int.toNat (↑k : Int)]? = some (coreF (List.getD (Core.kids x) (Int.toNat (↑k : Int)) default)) ∧ rng
 IntKind.i64 (n + (↑(sumBy cC (List.take k (Core.kids x))) : Int) + 1) ∧ (0 ≤ (↑k : Int) ∧ Int.toNat (↑k : Int) < List.length (List.set (List.map coreC (mkTo mkC cC (Core.kids x) n
 k)) (Int.toNat (↑k : Int)) [cI (n + (↑(sumBy cC (List.take k (Core.kids x))) : Int)), cI (Core.number (List.getD (Core.kids x) (Int.toNat (↑k : Int)) default)), Cell.list
 (List.map intC (Core.params (List.getD (Core.kids x) (Int.toNat (↑k : Int)) default))), cI (Datum.kind (Core.datum (List.getD (Core.kids x) (Int.toNat (↑k : Int)) default))), cI
 (Datum.number (Core.datum (List.getD (Core.kids x) (Int.toNat (↑k : Int)) default))), cS (Datum.text (Core.datum (List.getD (Core.kids x) (Int.toNat (↑k : Int)) default))),
 Cell.list (List.map datumC (Datum.items (Core.datum (List.getD (Core.kids x) (Int.toNat (↑k : Int)) default)))), Cell.list (List.map coreC (Core.kids (List.getD (Core.kids x)
 (Int.toNat (↑k : Int)) default)))])) ∧ (List.set (List.map coreC (mkTo mkC cC (Core.kids x) n k)) (Int.toNat (↑k : Int)) [cI (n + (↑(sumBy cC (List.take k (Core.kids x))) : Int)),
 cI (Core.number (List.getD (Core.kids x) (Int.toNat (↑k : Int)) default)), Cell.list (List.map intC (Core.params (List.getD (Core.kids x) (Int.toNat (↑k : Int)) default))), cI
 (Datum.kind (Core.datum (List.getD (Core.kids x) (Int.toNat (↑k : Int)) default))), cI (Datum.number (Core.datum (List.getD (Core.kids x) (Int.toNat (↑k : Int)) default))), cS
 (Datum.text (Core.datum (List.getD (Core.kids x) (Int.toNat (↑k : Int)) default))), Cell.list (List.map datumC (Datum.items (Core.datum (List.getD (Core.kids x) (Int.toNat (↑k :
 Int)) default)))), Cell.list (List.map coreC (Core.kids (List.getD (Core.kids x) (Int.toNat (↑k : Int)) default)))])[Int.toNat (↑k : Int)]? = some [cI (n + (↑(sumBy cC (List.take
 k (Core.kids x))) : Int)), cI (Core.number (List.getD (Core.kids x) (Int.toNat (↑k : Int)) default)), Cell.list (List.map intC (Core.params (List.getD (Core.kids x) (Int.toNat (↑k
 : Int)) default))), cI (Datum.kind (Core.datum (List.getD (Core.kids x) (Int.toNat (↑k : Int)) default))), cI (Datum.number (Core.datum (List.getD (Core.kids x) (Int.toNat (↑k :
 Int)) default))), cS (Datum.text (Core.datum (List.getD (Core.kids x) (Int.toNat (↑k : Int)) default))), Cell.list (List.map datumC (Datum.items (Core.datum (List.getD (Core.kids
 x) (Int.toNat (↑k : Int)) default)))), Cell.list (List.map coreC (Core.kids (List.getD (Core.kids x) (Int.toNat (↑k : Int)) default)))] ∧ List.set (List.set (List.map coreC (mkTo
 mkC cC (Core.kids x) n k)) (Int.toNat (↑k : Int)) [cI (n + (↑(sumBy cC (List.take k (Core.kids x))) : Int)), cI (Core.number (List.getD (Core.kids x) (Int.toNat (↑k : Int))
 default)), Cell.list (List.map intC (Core.params (List.getD (Core.kids x) (Int.toNat (↑k : Int)) default))), cI (Datum.kind (Core.datum (List.getD (Core.kids x) (Int.toNat (↑k :
 Int)) default))), cI (Datum.number (Core.datum (List.getD (Core.kids x) (Int.toNat (↑k : Int)) default))), cS (Datum.text (Core.datum (List.getD (Core.kids x) (Int.toNat (↑k :
 Int)) default))), Cell.list (List.map datumC (Datum.items (Core.datum (List.getD (Core.kids x) (Int.toNat (↑k : Int)) default)))), Cell.list (List.map coreC (Core.kids (List.getD
 (Core.kids x) (Int.toNat (↑k : Int)) default)))]) (Int.toNat (↑k : Int)) [cI (n + (↑(sumBy cC (List.take k (Core.kids x))) : Int)), cI (n + (↑(sumBy cC (List.take k (Core.kids
 x))) : Int) + 1), Cell.list (List.map intC (Core.params (List.getD (Core.kids x) (Int.toNat (↑k : Int)) default))), cI (Datum.kind (Core.datum (List.getD (Core.kids x) (Int.toNat
 (↑k : Int)) default))), cI (Datum.number (Core.datum (List.getD (Core.kids x) (Int.toNat (↑k : Int)) default))), cS (Datum.text (Core.datum (List.getD (Core.kids x) (Int.toNat (↑k
 : Int)) default))), Cell.list (List.map datumC (Datum.items (Core.datum (List.getD (Core.kids x) (Int.toNat (↑k : Int)) default)))), Cell.list (List.map coreC (Core.kids
 (List.getD (Core.kids x) (Int.toNat (↑k : Int)) default)))] = List.set (List.map coreC (mkTo mkC cC (Core.kids x) n k)) (Int.toNat (↑k : Int)) [cI (n + (↑(sumBy cC (List.take k
 (Core.kids x))) : Int)), cI (n + (↑(sumBy cC (List.take k (Core.kids x))) : Int) + 1), Cell.list (List.map intC (Core.params (List.getD (Core.kids x) (Int.toNat (↑k : Int))
 default))), cI (Datum.kind (Core.datum (List.getD (Core.kids x) (Int.toNat (↑k : Int)) default))), cI (Datum.number (Core.datum (List.getD (Core.kids x) (Int.toNat (↑k : Int))
 default))), cS (Datum.text (Core.datum (List.getD (Core.kids x) (Int.toNat (↑k : Int)) default))), Cell.list (List.map datumC (Datum.items (Core.datum (List.getD (Core.kids x)
 (Int.toNat (↑k : Int)) default)))), Cell.list (List.map coreC (Core.kids (List.getD (Core.kids x) (Int.toNat (↑k : Int)) default)))] ∧ rng IntKind.i64 (n + (↑(sumBy cC (List.take
 k (Core.kids x))) : Int) + 1 + 1) ∧ (0 ≤ (↑k : Int) ∧ Int.toNat (↑k : Int) < List.length (List.set (List.map coreC (mkTo mkC cC (Core.kids x) n k)) (Int.toNat (↑k : Int)) [cI (n +
 (↑(sumBy cC (List.take k (Core.kids x))) : Int)), cI (n + (↑(sumBy cC (List.take k (Core.kids x))) : Int) + 1), Cell.list (List.map intC (Core.params (List.getD (Core.kids x)
 (Int.toNat (↑k : Int)) default))), cI (Datum.kind (Core.datum (List.getD (Core.kids x) (Int.toNat (↑k : Int)) default))), cI (Datum.number (Core.datum (List.getD (Core.kids x)
 (Int.toNat (↑k : Int)) default))), cS (Datum.text (Core.datum (List.getD (Core.kids x) (Int.toNat (↑k : Int)) default))), Cell.list (List.map datumC (Datum.items (Core.datum
 (List.getD (Core.kids x) (Int.toNat (↑k : Int)) default)))), Cell.list (List.map coreC (Core.kids (List.getD (Core.kids x) (Int.toNat (↑k : Int)) default)))])) ∧ Int.toNat (↑k :
 Int) < List.length (List.set (List.map coreC (mkTo mkC cC (Core.kids x) n k)) (Int.toNat (↑k : Int)) [cI (n + (↑(sumBy cC (List.take k (Core.kids x))) : Int)), cI (n + (↑(sumBy cC
 (List.take k (Core.kids x))) : Int) + 1), Cell.list (List.map intC (Core.params (List.getD (Core.kids x) (Int.toNat (↑k : Int)) default))), cI (Datum.kind (Core.datum (List.getD
 (Core.kids x) (Int.toNat (↑k : Int)) default))), cI (Datum.number (Core.datum (List.getD (Core.kids x) (Int.toNat (↑k : Int)) default))), cS (Datum.text (Core.datum (List.getD
 (Core.kids x) (Int.toNat (↑k : Int)) default))), Cell.list (List.map datumC (Datum.items (Core.datum (List.getD (Core.kids x) (Int.toNat (↑k : Int)) default)))), Cell.list
 (List.map coreC (Core.kids (List.getD (Core.kids x) (Int.toNat (↑k : Int)) default)))]) ∧ (List.set (List.map coreC (mkTo mkC cC (Core.kids x) n k)) (Int.toNat (↑k : Int)) [cI (n
 + (↑(sumBy cC (List.take k (Core.kids x))) : Int)), cI (n + (↑(sumBy cC (List.take k (Core.kids x))) : Int) + 1), Cell.list (List.map intC (Core.params (List.getD (Core.kids x)
 (Int.toNat (↑k : Int)) default))), cI (Datum.kind (Core.datum (List.getD (Core.kids x) (Int.toNat (↑k : Int)) default))), cI (Datum.number (Core.datum (List.getD (Core.kids x)
 (Int.toNat (↑k : Int)) default))), cS (Datum.text (Core.datum (List.getD (Core.kids x) (Int.toNat (↑k : Int)) default))), Cell.list (List.map datumC (Datum.items (Core.datum
 (List.getD (Core.kids x) (Int.toNat (↑k : Int)) default)))), Cell.list (List.map coreC (Core.kids (List.getD (Core.kids x) (Int.toNat (↑k : Int)) default)))])[Int.toNat (↑k :
 Int)]? = some [cI (n + (↑(sumBy cC (List.take k (Core.kids x))) : Int)), cI (n + (↑(sumBy cC (List.take k (Core.kids x))) : Int) + 1), Cell.list (List.map intC (Core.params
 (List.getD (Core.kids x) (Int.toNat (↑k : Int)) default))), cI (Datum.kind (Core.datum (List.getD (Core.kids x) (Int.toNat (↑k : Int)) default))), cI (Datum.number (Core.datum
 (List.getD (Core.kids x) (Int.toNat (↑k : Int)) default))), cS (Datum.text (Core.datum (List.getD (Core.kids x) (Int.toNat (↑k : Int)) default))), Cell.list (List.map datumC
 (Datum.items (Core.datum (List.getD (Core.kids x) (Int.toNat (↑k : Int)) default)))), Cell.list (List.map coreC (Core.kids (List.getD (Core.kids x) (Int.toNat (↑k : Int))
 default)))] ∧ some (Cell.list (List.map intC (Core.params (List.getD (Core.kids x) (Int.toNat (↑k : Int)) default)))) = some (Cell.list (List.map intC (Core.params (List.getD
 (Core.kids x) (Int.toNat (↑k : Int)) default)))) ∧ (∀ (x_1 : List Cell), x_1 ∈ List.map intC (Core.params (List.getD (Core.kids x) (Int.toNat (↑k : Int)) default)) → List.length
 x_1 = 1) ∧ CallOK Try.prog (43 : FuncId) [Ob.arr true 1 (List.map intC (Core.params (List.getD (Core.kids x) (Int.toNat (↑k : Int)) default)))] [SV.one (AC.ref 0), li (n +
 (↑(sumBy cC (List.take k (Core.kids x))) : Int) + 1 + 1)] [Ob.arr true 1 (List.map intC (seqM mkI cOne (Core.params (List.getD (Core.kids x) (Int.toNat (↑k : Int)) default)) (n +
 (↑(sumBy cC (List.take k (Core.kids x))) : Int) + 1 + 1)))] (AV.sv (li (n + (↑(sumBy cC (List.take k (Core.kids x))) : Int) + 1 + 1 + (↑(List.length (Core.params (List.getD
 (Core.kids x) (Int.toNat (↑k : Int)) default))) : Int)))) ∧ (0 ≤ (↑k : Int) ∧ Int.toNat (↑k : Int) < List.length (List.set (List.set (List.map coreC (mkTo mkC cC (Core.kids x) n
 k)) (Int.toNat (↑k : Int)) [cI (n + (↑(sumBy cC (List.take k (Core.kids x))) : Int)), cI (n + (↑(sumBy cC (List.take k (Core.kids x))) : Int) + 1), Cell.list (List.map intC
 (Core.params (List.getD (Core.kids x) (Int.toNat (↑k : Int)) default))), cI (Datum.kind (Core.datum (List.getD (Core.kids x) (Int.toNat (↑k : Int)) default))), cI (Datum.number
 (Core.datum (List.getD (Core.kids x) (Int.toNat (↑k : Int)) default))), cS (Datum.text (Core.datum (List.getD (Core.kids x) (Int.toNat (↑k : Int)) default))), Cell.list (List.map
 datumC (Datum.items (Core.datum (List.getD (Core.kids x) (Int.toNat (↑k : Int)) default)))), Cell.list (List.map coreC (Core.kids (List.getD (Core.kids x) (Int.toNat (↑k : Int))
 default)))]) (Int.toNat (↑k : Int)) [cI (n + (↑(sumBy cC (List.take k (Core.kids x))) : Int)), cI (n + (↑(sumBy cC (List.take k (Core.kids x))) : Int) + 1), Cell.list (List.map
 intC (seqM mkI cOne (Core.params (List.getD (Core.kids x) (Int.toNat (↑k : Int)) default)) (n + (↑(sumBy cC (List.take k (Core.kids x))) : Int) + 1 + 1))), cI (Datum.kind
 (Core.datum (List.getD (Core.kids x) (Int.toNat (↑k : Int)) default))), cI (Datum.number (Core.datum (List.getD (Core.kids x) (Int.toNat (↑k : Int)) default))), cS (Datum.text
 (Core.datum (List.getD (Core.kids x) (Int.toNat (↑k : Int)) default))), Cell.list (List.map datumC (Datum.items (Core.datum (List.getD (Core.kids x) (Int.toNat (↑k : Int))
 default)))), Cell.list (List.map coreC (Core.kids (List.getD (Core.kids x) (Int.toNat (↑k : Int)) default)))])) ∧ (List.set (List.set (List.map coreC (mkTo mkC cC (Core.kids x) n
 k)) (Int.toNat (↑k : Int)) [cI (n + (↑(sumBy cC (List.take k (Core.kids x))) : Int)), cI (n + (↑(sumBy cC (List.take k (Core.kids x))) : Int) + 1), Cell.list (List.map intC
 (Core.params (List.getD (Core.kids x) (Int.toNat (↑k : Int)) default))), cI (Datum.kind (Core.datum (List.getD (Core.kids x) (Int.toNat (↑k : Int)) default))), cI (Datum.number
 (Core.datum (List.getD (Core.kids x) (Int.toNat (↑k : Int)) default))), cS (Datum.text (Core.datum (List.getD (Core.kids x) (Int.toNat (↑k : Int)) default))), Cell.list (List.map
 datumC (Datum.items (Core.datum (List.getD (Core.kids x) (Int.toNat (↑k : Int)) default)))), Cell.list (List.map coreC (Core.kids (List.getD (Core.kids x) (Int.toNat (↑k : Int))
 default)))]) (Int.toNat (↑k : Int)) [cI (n + (↑(sumBy cC (List.take k (Core.kids x))) : Int)), cI (n + (↑(sumBy cC (List.take k (Core.kids x))) : Int) + 1), Cell.list (List.map
 intC (seqM mkI cOne (Core.params (List.getD (Core.kids x) (Int.toNat (↑k : Int)) default)) (n + (↑(sumBy cC (List.take k (Core.kids x))) : Int) + 1 + 1))), cI (Datum.kind
 (Core.datum (List.getD (Core.kids x) (Int.toNat (↑k : Int)) default))), cI (Datum.number (Core.datum (List.getD (Core.kids x) (Int.toNat (↑k : Int)) default))), cS (Datum.text
 (Core.datum (List.getD (Core.kids x) (Int.toNat (↑k : Int)) default))), Cell.list (List.map datumC (Datum.items (Core.datum (List.getD (Core.kids x) (Int.toNat (↑k : Int))
 default)))), Cell.list (List.map coreC (Core.kids (List.getD (Core.kids x) (Int.toNat (↑k : Int)) default)))])[Int.toNat (↑k : Int)]? = some [cI (n + (↑(sumBy cC (List.take k
 (Core.kids x))) : Int)), cI (n + (↑(sumBy cC (List.take k (Core.kids x))) : Int) + 1), Cell.list (List.map intC (seqM mkI cOne (Core.params (List.getD (Core.kids x) (Int.toNat (↑k
 : Int)) default)) (n + (↑(sumBy cC (List.take k (Core.kids x))) : Int) + 1 + 1))), cI (Datum.kind (Core.datum (List.getD (Core.kids x) (Int.toNat (↑k : Int)) default))), cI
 (Datum.number (Core.datum (List.getD (Core.kids x) (Int.toNat (↑k : Int)) default))), cS (Datum.text (Core.datum (List.getD (Core.kids x) (Int.toNat (↑k : Int)) default))),
 Cell.list (List.map datumC (Datum.items (Core.datum (List.getD (Core.kids x) (Int.toNat (↑k : Int)) default)))), Cell.list (List.map coreC (Core.kids (List.getD (Core.kids x)
 (Int.toNat (↑k : Int)) default)))] ∧ List.set (List.set (List.set (List.map coreC (mkTo mkC cC (Core.kids x) n k)) (Int.toNat (↑k : Int)) [cI (n + (↑(sumBy cC (List.take k
 (Core.kids x))) : Int)), cI (n + (↑(sumBy cC (List.take k (Core.kids x))) : Int) + 1), Cell.list (List.map intC (Core.params (List.getD (Core.kids x) (Int.toNat (↑k : Int))
 default))), cI (Datum.kind (Core.datum (List.getD (Core.kids x) (Int.toNat (↑k : Int)) default))), cI (Datum.number (Core.datum (List.getD (Core.kids x) (Int.toNat (↑k : Int))
 default))), cS (Datum.text (Core.datum (List.getD (Core.kids x) (Int.toNat (↑k : Int)) default))), Cell.list (List.map datumC (Datum.items (Core.datum (List.getD (Core.kids x)
 (Int.toNat (↑k : Int)) default)))), Cell.list (List.map coreC (Core.kids (List.getD (Core.kids x) (Int.toNat (↑k : Int)) default)))]) (Int.toNat (↑k : Int)) [cI (n + (↑(sumBy cC
 (List.take k (Core.kids x))) : Int)), cI (n + (↑(sumBy cC (List.take k (Core.kids x))) : Int) + 1), Cell.list (List.map intC (seqM mkI cOne (Core.params (List.getD (Core.kids x)
 (Int.toNat (↑k : Int)) default)) (n + (↑(sumBy cC (List.take k (Core.kids x))) : Int) + 1 + 1))), cI (Datum.kind (Core.datum (List.getD (Core.kids x) (Int.toNat (↑k : Int))
 default))), cI (Datum.number (Core.datum (List.getD (Core.kids x) (Int.toNat (↑k : Int)) default))), cS (Datum.text (Core.datum (List.getD (Core.kids x) (Int.toNat (↑k : Int))
 default))), Cell.list (List.map datumC (Datum.items (Core.datum (List.getD (Core.kids x) (Int.toNat (↑k : Int)) default)))), Cell.list (List.map coreC (Core.kids (List.getD
 (Core.kids x) (Int.toNat (↑k : Int)) default)))]) (Int.toNat (↑k : Int)) [cI (n + (↑(sumBy cC (List.take k (Core.kids x))) : Int)), cI (n + (↑(sumBy cC (List.take k (Core.kids
 x))) : Int) + 1), Cell.list (List.map intC (seqM mkI cOne (Core.params (List.getD (Core.kids x) (Int.toNat (↑k : Int)) default)) (n + (↑(sumBy cC (List.take k (Core.kids x))) :
 Int) + 1 + 1))), cI (n + (↑(sumBy cC (List.take k (Core.kids x))) : Int) + 1 + 1 + (↑(List.length (Core.params (List.getD (Core.kids x) (Int.toNat (↑k : Int)) default))) : Int)),
 cI (Datum.number (Core.datum (List.getD (Core.kids x) (Int.toNat (↑k : Int)) default))), cS (Datum.text (Core.datum (List.getD (Core.kids x) (Int.toNat (↑k : Int)) default))),
 Cell.list (List.map datumC (Datum.items (Core.datum (List.getD (Core.kids x) (Int.toNat (↑k : Int)) default)))), Cell.list (List.map coreC (Core.kids (List.getD (Core.kids x)
 (Int.toNat (↑k : Int)) default)))] = List.set (List.set (List.map coreC (mkTo mkC cC (Core.kids x) n k)) (Int.toNat (↑k : Int)) [cI (n + (↑(sumBy cC (List.take k (Core.kids x))) :
 Int)), cI (n + (↑(sumBy cC (List.take k (Core.kids x))) : Int) + 1), Cell.list (List.map intC (Core.params (List.getD (Core.kids x) (Int.toNat (↑k : Int)) default))), cI
 (Datum.kind (Core.datum (List.getD (Core.kids x) (Int.toNat (↑k : Int)) default))), cI (Datum.number (Core.datum (List.getD (Core.kids x) (Int.toNat (↑k : Int)) default))), cS
 (Datum.text (Core.datum (List.getD (Core.kids x) (Int.toNat (↑k : Int)) default))), Cell.list (List.map datumC (Datum.items (Core.datum (List.getD (Core.kids x) (Int.toNat (↑k :
 Int)) default)))), Cell.list (List.map coreC (Core.kids (List.getD (Core.kids x) (Int.toNat (↑k : Int)) default)))]) (Int.toNat (↑k : Int)) [cI (n + (↑(sumBy cC (List.take k
 (Core.kids x))) : Int)), cI (n + (↑(sumBy cC (List.take k (Core.kids x))) : Int) + 1), Cell.list (List.map intC (seqM mkI cOne (Core.params (List.getD (Core.kids x) (Int.toNat (↑k
 : Int)) default)) (n + (↑(sumBy cC (List.take k (Core.kids x))) : Int) + 1 + 1))), cI (n + (↑(sumBy cC (List.take k (Core.kids x))) : Int) + 1 + 1 + (↑(List.length (Core.params
 (List.getD (Core.kids x) (Int.toNat (↑k : Int)) default))) : Int)), cI (Datum.number (Core.datum (List.getD (Core.kids x) (Int.toNat (↑k : Int)) default))), cS (Datum.text
 (Core.datum (List.getD (Core.kids x) (Int.toNat (↑k : Int)) default))), Cell.list (List.map datumC (Datum.items (Core.datum (List.getD (Core.kids x) (Int.toNat (↑k : Int))
 default)))), Cell.list (List.map coreC (Core.kids (List.getD (Core.kids x) (Int.toNat (↑k : Int)) default)))] ∧ rng IntKind.i64 (n + (↑(sumBy cC (List.take k (Core.kids x))) :
 Int) + 1 + 1 + (↑(List.length (Core.params (List.getD (Core.kids x) (Int.toNat (↑k : Int)) default))) : Int) + 1) ∧ (0 ≤ (↑k : Int) ∧ Int.toNat (↑k : Int) < List.length (List.set
 (List.set (List.map coreC (mkTo mkC cC (Core.kids x) n k)) (Int.toNat (↑k : Int)) [cI (n + (↑(sumBy cC (List.take k (Core.kids x))) : Int)), cI (n + (↑(sumBy cC (List.take k
 (Core.kids x))) : Int) + 1), Cell.list (List.map intC (Core.params (List.getD (Core.kids x) (Int.toNat (↑k : Int)) default))), cI (Datum.kind (Core.datum (List.getD (Core.kids x)
 (Int.toNat (↑k : Int)) default))), cI (Datum.number (Core.datum (List.getD (Core.kids x) (Int.toNat (↑k : Int)) default))), cS (Datum.text (Core.datum (List.getD (Core.kids x)
 (Int.toNat (↑k : Int)) default))), Cell.list (List.map datumC (Datum.items (Core.datum (List.getD (Core.kids x) (Int.toNat (↑k : Int)) default)))), Cell.list (List.map coreC
 (Core.kids (List.getD (Core.kids x) (Int.toNat (↑k : Int)) default)))]) (Int.toNat (↑k : Int)) [cI (n + (↑(sumBy cC (List.take k (Core.kids x))) : Int)), cI (n + (↑(sumBy cC
 (List.take k (Core.kids x))) : Int) + 1), Cell.list (List.map intC (seqM mkI cOne (Core.params (List.getD (Core.kids x) (Int.toNat (↑k : Int)) default)) (n + (↑(sumBy cC
 (List.take k (Core.kids x))) : Int) + 1 + 1))), cI (n + (↑(sumBy cC (List.take k (Core.kids x))) : Int) + 1 + 1 + (↑(List.length (Core.params (List.getD (Core.kids x) (Int.toNat
 (↑k : Int)) default))) : Int)), cI (Datum.number (Core.datum (List.getD (Core.kids x) (Int.toNat (↑k : Int)) default))), cS (Datum.text (Core.datum (List.getD (Core.kids x)
 (Int.toNat (↑k : Int)) default))), Cell.list (List.map datumC (Datum.items (Core.datum (List.getD (Core.kids x) (Int.toNat (↑k : Int)) default)))), Cell.list (List.map coreC
 (Core.kids (List.getD (Core.kids x) (Int.toNat (↑k : Int)) default)))])) ∧ (List.set (List.set (List.map coreC (mkTo mkC cC (Core.kids x) n k)) (Int.toNat (↑k : Int)) [cI (n +
 (↑(sumBy cC (List.take k (Core.kids x))) : Int)), cI (n + (↑(sumBy cC (List.take k (Core.kids x))) : Int) + 1), Cell.list (List.map intC (Core.params (List.getD (Core.kids x)
 (Int.toNat (↑k : Int)) default))), cI (Datum.kind (Core.datum (List.getD (Core.kids x) (Int.toNat (↑k : Int)) default))), cI (Datum.number (Core.datum (List.getD (Core.kids x)
 (Int.toNat (↑k : Int)) default))), cS (Datum.text (Core.datum (List.getD (Core.kids x) (Int.toNat (↑k : Int)) default))), Cell.list (List.map datumC (Datum.items (Core.datum
 (List.getD (Core.kids x) (Int.toNat (↑k : Int)) default)))), Cell.list (List.map coreC (Core.kids (List.getD (Core.kids x) (Int.toNat (↑k : Int)) default)))]) (Int.toNat (↑k :
 Int)) [cI (n + (↑(sumBy cC (List.take k (Core.kids x))) : Int)), cI (n + (↑(sumBy cC (List.take k (Core.kids x))) : Int) + 1), Cell.list (List.map intC (seqM mkI cOne (Core.params
 (List.getD (Core.kids x) (Int.toNat (↑k : Int)) default)) (n + (↑(sumBy cC (List.take k (Core.kids x))) : Int) + 1 + 1))), cI (n + (↑(sumBy cC (List.take k (Core.kids x))) : Int)
 + 1 + 1 + (↑(List.length (Core.params (List.getD (Core.kids x) (Int.toNat (↑k : Int)) default))) : Int)), cI (Datum.number (Core.datum (List.getD (Core.kids x) (Int.toNat (↑k :
 Int)) default))), cS (Datum.text (Core.datum (List.getD (Core.kids x) (Int.toNat (↑k : Int)) default))), Cell.list (List.map datumC (Datum.items (Core.datum (List.getD (Core.kids
 x) (Int.toNat (↑k : Int)) default)))), Cell.list (List.map coreC (Core.kids (List.getD (Core.kids x) (Int.toNat (↑k : Int)) default)))])[Int.toNat (↑k : Int)]? = some [cI (n +
 (↑(sumBy cC (List.take k (Core.kids x))) : Int)), cI (n + (↑(sumBy cC (List.take k (Core.kids x))) : Int) + 1), Cell.list (List.map intC (seqM mkI cOne (Core.params (List.getD
 (Core.kids x) (Int.toNat (↑k : Int)) default)) (n + (↑(sumBy cC (List.take k (Core.kids x))) : Int) + 1 + 1))), cI (n + (↑(sumBy cC (List.take k (Core.kids x))) : Int) + 1 + 1 +
 (↑(List.length (Core.params (List.getD (Core.kids x) (Int.toNat (↑k : Int)) default))) : Int)), cI (Datum.number (Core.datum (List.getD (Core.kids x) (Int.toNat (↑k : Int))
 default))), cS (Datum.text (Core.datum (List.getD (Core.kids x) (Int.toNat (↑k : Int)) default))), Cell.list (List.map datumC (Datum.items (Core.datum (List.getD (Core.kids x)
 (Int.toNat (↑k : Int)) default)))), Cell.list (List.map coreC (Core.kids (List.getD (Core.kids x) (Int.toNat (↑k : Int)) default)))] ∧ List.set (List.set (List.set (List.map coreC
 (mkTo mkC cC (Core.kids x) n k)) (Int.toNat (↑k : Int)) [cI (n + (↑(sumBy cC (List.take k (Core.kids x))) : Int)), cI (n + (↑(sumBy cC (List.take k (Core.kids x))) : Int) + 1),
 Cell.list (List.map intC (Core.params (List.getD (Core.kids x) (Int.toNat (↑k : Int)) default))), cI (Datum.kind (Core.datum (List.getD (Core.kids x) (Int.toNat (↑k : Int))
 default))), cI (Datum.number (Core.datum (List.getD (Core.kids x) (Int.toNat (↑k : Int)) default))), cS (Datum.text (Core.datum (List.getD (Core.kids x) (Int.toNat (↑k : Int))
 default))), Cell.list (List.map datumC (Datum.items (Core.datum (List.getD (Core.kids x) (Int.toNat (↑k : Int)) default)))), Cell.list (List.map coreC (Core.kids (List.getD
 (Core.kids x) (Int.toNat (↑k : Int)) default)))]) (Int.toNat (↑k : Int)) [cI (n + (↑(sumBy cC (List.take k (Core.kids x))) : Int)), cI (n + (↑(sumBy cC (List.take k (Core.kids
 x))) : Int) + 1), Cell.list (List.map intC (seqM mkI cOne (Core.params (List.getD (Core.kids x) (Int.toNat (↑k : Int)) default)) (n + (↑(sumBy cC (List.take k (Core.kids x))) :
 Int) + 1 + 1))), cI (n + (↑(sumBy cC (List.take k (Core.kids x))) : Int) + 1 + 1 + (↑(List.length (Core.params (List.getD (Core.kids x) (Int.toNat (↑k : Int)) default))) : Int)),
 cI (Datum.number (Core.datum (List.getD (Core.kids x) (Int.toNat (↑k : Int)) default))), cS (Datum.text (Core.datum (List.getD (Core.kids x) (Int.toNat (↑k : Int)) default))),
 Cell.list (List.map datumC (Datum.items (Core.datum (List.getD (Core.kids x) (Int.toNat (↑k : Int)) default)))), Cell.list (List.map coreC (Core.kids (List.getD (Core.kids x)
 (Int.toNat (↑k : Int)) default)))]) (Int.toNat (↑k : Int)) [cI (n + (↑(sumBy cC (List.take k (Core.kids x))) : Int)), cI (n + (↑(sumBy cC (List.take k (Core.kids x))) : Int) + 1),
 Cell.list (List.map intC (seqM mkI cOne (Core.params (List.getD (Core.kids x) (Int.toNat (↑k : Int)) default)) (n + (↑(sumBy cC (List.take k (Core.kids x))) : Int) + 1 + 1))), cI
 (n + (↑(sumBy cC (List.take k (Core.kids x))) : Int) + 1 + 1 + (↑(List.length (Core.params (List.getD (Core.kids x) (Int.toNat (↑k : Int)) default))) : Int)), cI (n + (↑(sumBy cC
 (List.take k (Core.kids x))) : Int) + 1 + 1 + (↑(List.length (Core.params (List.getD (Core.kids x) (Int.toNat (↑k : Int)) default))) : Int) + 1), cS (Datum.text (Core.datum
 (List.getD (Core.kids x) (Int.toNat (↑k : Int)) default))), Cell.list (List.map datumC (Datum.items (Core.datum (List.getD (Core.kids x) (Int.toNat (↑k : Int)) default)))),
 Cell.list (List.map coreC (Core.kids (List.getD (Core.kids x) (Int.toNat (↑k : Int)) default)))] = List.set (List.set (List.map coreC (mkTo mkC cC (Core.kids x) n k)) (Int.toNat
 (↑k : Int)) [cI (n + (↑(sumBy cC (List.take k (Core.kids x))) : Int)), cI (n + (↑(sumBy cC (List.take k (Core.kids x))) : Int) + 1), Cell.list (List.map intC (Core.params
 (List.getD (Core.kids x) (Int.toNat (↑k : Int)) default))), cI (Datum.kind (Core.datum (List.getD (Core.kids x) (Int.toNat (↑k : Int)) default))), cI (Datum.number (Core.datum
 (List.getD (Core.kids x) (Int.toNat (↑k : Int)) default))), cS (Datum.text (Core.datum (List.getD (Core.kids x) (Int.toNat (↑k : Int)) default))), Cell.list (List.map datumC
 (Datum.items (Core.datum (List.getD (Core.kids x) (Int.toNat (↑k : Int)) default)))), Cell.list (List.map coreC (Core.kids (List.getD (Core.kids x) (Int.toNat (↑k : Int))
 default)))]) (Int.toNat (↑k : Int)) [cI (n + (↑(sumBy cC (List.take k (Core.kids x))) : Int)), cI (n + (↑(sumBy cC (List.take k (Core.kids x))) : Int) + 1), Cell.list (List.map
 intC (seqM mkI cOne (Core.params (List.getD (Core.kids x) (Int.toNat (↑k : Int)) default)) (n + (↑(sumBy cC (List.take k (Core.kids x))) : Int) + 1 + 1))), cI (n + (↑(sumBy cC
 (List.take k (Core.kids x))) : Int) + 1 + 1 + (↑(List.length (Core.params (List.getD (Core.kids x) (Int.toNat (↑k : Int)) default))) : Int)), cI (n + (↑(sumBy cC (List.take k
 (Core.kids x))) : Int) + 1 + 1 + (↑(List.length (Core.params (List.getD (Core.kids x) (Int.toNat (↑k : Int)) default))) : Int) + 1), cS (Datum.text (Core.datum (List.getD
 (Core.kids x) (Int.toNat (↑k : Int)) default))), Cell.list (List.map datumC (Datum.items (Core.datum (List.getD (Core.kids x) (Int.toNat (↑k : Int)) default)))), Cell.list
 (List.map coreC (Core.kids (List.getD (Core.kids x) (Int.toNat (↑k : Int)) default)))] ∧ rng IntKind.i64 (n + (↑(sumBy cC (List.take k (Core.kids x))) : Int) + 1 + 1 +
 (↑(List.length (Core.params (List.getD (Core.kids x) (Int.toNat (↑k : Int)) default))) : Int) + 1 + 1) ∧ CallOK Try.prog (85 : FuncId) [] [li (n + (↑(sumBy cC (List.take k
 (Core.kids x))) : Int) + 1 + 1 + (↑(List.length (Core.params (List.getD (Core.kids x) (Int.toNat (↑k : Int)) default))) : Int) + 1 + 1)] [] (AV.sv (ls (mText (n + (↑(sumBy cC
 (List.take k (Core.kids x))) : Int) + 1 + 1 + (↑(List.length (Core.params (List.getD (Core.kids x) (Int.toNat (↑k : Int)) default))) : Int) + 1 + 1)))) ∧ (0 ≤ (↑k : Int) ∧
 Int.toNat (↑k : Int) < List.length (List.set (List.set (List.map coreC (mkTo mkC cC (Core.kids x) n k)) (Int.toNat (↑k : Int)) [cI (n + (↑(sumBy cC (List.take k (Core.kids x))) :
 Int)), cI (n + (↑(sumBy cC (List.take k (Core.kids x))) : Int) + 1), Cell.list (List.map intC (Core.params (List.getD (Core.kids x) (Int.toNat (↑k : Int)) default))), cI
 (Datum.kind (Core.datum (List.getD (Core.kids x) (Int.toNat (↑k : Int)) default))), cI (Datum.number (Core.datum (List.getD (Core.kids x) (Int.toNat (↑k : Int)) default))), cS
 (Datum.text (Core.datum (List.getD (Core.kids x) (Int.toNat (↑k : Int)) default))), Cell.list (List.map datumC (Datum.items (Core.datum (List.getD (Core.kids x) (Int.toNat (↑k :
 Int)) default)))), Cell.list (List.map coreC (Core.kids (List.getD (Core.kids x) (Int.toNat (↑k : Int)) default)))]) (Int.toNat (↑k : Int)) [cI (n + (↑(sumBy cC (List.take k
 (Core.kids x))) : Int)), cI (n + (↑(sumBy cC (List.take k (Core.kids x))) : Int) + 1), Cell.list (List.map intC (seqM mkI cOne (Core.params (List.getD (Core.kids x) (Int.toNat (↑k
 : Int)) default)) (n + (↑(sumBy cC (List.take k (Core.kids x))) : Int) + 1 + 1))), cI (n + (↑(sumBy cC (List.take k (Core.kids x))) : Int) + 1 + 1 + (↑(List.length (Core.params
 (List.getD (Core.kids x) (Int.toNat (↑k : Int)) default))) : Int)), cI (n + (↑(sumBy cC (List.take k (Core.kids x))) : Int) + 1 + 1 + (↑(List.length (Core.params (List.getD
 (Core.kids x) (Int.toNat (↑k : Int)) default))) : Int) + 1), cS (Datum.text (Core.datum (List.getD (Core.kids x) (Int.toNat (↑k : Int)) default))), Cell.list (List.map datumC
 (Datum.items (Core.datum (List.getD (Core.kids x) (Int.toNat (↑k : Int)) default)))), Cell.list (List.map coreC (Core.kids (List.getD (Core.kids x) (Int.toNat (↑k : Int))
 default)))])) ∧ (List.set (List.set (List.map coreC (mkTo mkC cC (Core.kids x) n k)) (Int.toNat (↑k : Int)) [cI (n + (↑(sumBy cC (List.take k (Core.kids x))) : Int)), cI (n +
 (↑(sumBy cC (List.take k (Core.kids x))) : Int) + 1), Cell.list (List.map intC (Core.params (List.getD (Core.kids x) (Int.toNat (↑k : Int)) default))), cI (Datum.kind (Core.datum
 (List.getD (Core.kids x) (Int.toNat (↑k : Int)) default))), cI (Datum.number (Core.datum (List.getD (Core.kids x) (Int.toNat (↑k : Int)) default))), cS (Datum.text (Core.datum
 (List.getD (Core.kids x) (Int.toNat (↑k : Int)) default))), Cell.list (List.map datumC (Datum.items (Core.datum (List.getD (Core.kids x) (Int.toNat (↑k : Int)) default)))),
 Cell.list (List.map coreC (Core.kids (List.getD (Core.kids x) (Int.toNat (↑k : Int)) default)))]) (Int.toNat (↑k : Int)) [cI (n + (↑(sumBy cC (List.take k (Core.kids x))) : Int)),
 cI (n + (↑(sumBy cC (List.take k (Core.kids x))) : Int) + 1), Cell.list (List.map intC (seqM mkI cOne (Core.params (List.getD (Core.kids x) (Int.toNat (↑k : Int)) default)) (n +
 (↑(sumBy cC (List.take k (Core.kids x))) : Int) + 1 + 1))), cI (n + (↑(sumBy cC (List.take k (Core.kids x))) : Int) + 1 + 1 + (↑(List.length (Core.params (List.getD (Core.kids x)
 (Int.toNat (↑k : Int)) default))) : Int)), cI (n + (↑(sumBy cC (List.take k (Core.kids x))) : Int) + 1 + 1 + (↑(List.length (Core.params (List.getD (Core.kids x) (Int.toNat (↑k :
 Int)) default))) : Int) + 1), cS (Datum.text (Core.datum (List.getD (Core.kids x) (Int.toNat (↑k : Int)) default))), Cell.list (List.map datumC (Datum.items (Core.datum (List.getD
 (Core.kids x) (Int.toNat (↑k : Int)) default)))), Cell.list (List.map coreC (Core.kids (List.getD (Core.kids x) (Int.toNat (↑k : Int)) default)))])[Int.toNat (↑k : Int)]? = some
 [cI (n + (↑(sumBy cC (List.take k (Core.kids x))) : Int)), cI (n + (↑(sumBy cC (List.take k (Core.kids x))) : Int) + 1), Cell.list (List.map intC (seqM mkI cOne (Core.params
 (List.getD (Core.kids x) (Int.toNat (↑k : Int)) default)) (n + (↑(sumBy cC (List.take k (Core.kids x))) : Int) + 1 + 1))), cI (n + (↑(sumBy cC (List.take k (Core.kids x))) : Int)
 + 1 + 1 + (↑(List.length (Core.params (List.getD (Core.kids x) (Int.toNat (↑k : Int)) default))) : Int)), cI (n + (↑(sumBy cC (List.take k (Core.kids x))) : Int) + 1 + 1 +
 (↑(List.length (Core.params (List.getD (Core.kids x) (Int.toNat (↑k : Int)) default))) : Int) + 1), cS (Datum.text (Core.datum (List.getD (Core.kids x) (Int.toNat (↑k : Int))
 default))), Cell.list (List.map datumC (Datum.items (Core.datum (List.getD (Core.kids x) (Int.toNat (↑k : Int)) default)))), Cell.list (List.map coreC (Core.kids (List.getD
 (Core.kids x) (Int.toNat (↑k : Int)) default)))] ∧ List.set (List.set (List.set (List.map coreC (mkTo mkC cC (Core.kids x) n k)) (Int.toNat (↑k : Int)) [cI (n + (↑(sumBy cC
 (List.take k (Core.kids x))) : Int)), cI (n + (↑(sumBy cC (List.take k (Core.kids x))) : Int) + 1), Cell.list (List.map intC (Core.params (List.getD (Core.kids x) (Int.toNat (↑k :
 Int)) default))), cI (Datum.kind (Core.datum (List.getD (Core.kids x) (Int.toNat (↑k : Int)) default))), cI (Datum.number (Core.datum (List.getD (Core.kids x) (Int.toNat (↑k :
 Int)) default))), cS (Datum.text (Core.datum (List.getD (Core.kids x) (Int.toNat (↑k : Int)) default))), Cell.list (List.map datumC (Datum.items (Core.datum (List.getD (Core.kids
 x) (Int.toNat (↑k : Int)) default)))), Cell.list (List.map coreC (Core.kids (List.getD (Core.kids x) (Int.toNat (↑k : Int)) default)))]) (Int.toNat (↑k : Int)) [cI (n + (↑(sumBy
 cC (List.take k (Core.kids x))) : Int)), cI (n + (↑(sumBy cC (List.take k (Core.kids x))) : Int) + 1), Cell.list (List.map intC (seqM mkI cOne (Core.params (List.getD (Core.kids
 x) (Int.toNat (↑k : Int)) default)) (n + (↑(sumBy cC (List.take k (Core.kids x))) : Int) + 1 + 1))), cI (n + (↑(sumBy cC (List.take k (Core.kids x))) : Int) + 1 + 1 +
 (↑(List.length (Core.params (List.getD (Core.kids x) (Int.toNat (↑k : Int)) default))) : Int)), cI (n + (↑(sumBy cC (List.take k (Core.kids x))) : Int) + 1 + 1 + (↑(List.length
 (Core.params (List.getD (Core.kids x) (Int.toNat (↑k : Int)) default))) : Int) + 1), cS (Datum.text (Core.datum (List.getD (Core.kids x) (Int.toNat (↑k : Int)) default))),
 Cell.list (List.map datumC (Datum.items (Core.datum (List.getD (Core.kids x) (Int.toNat (↑k : Int)) default)))), Cell.list (List.map coreC (Core.kids (List.getD (Core.kids x)
 (Int.toNat (↑k : Int)) default)))]) (Int.toNat (↑k : Int)) [cI (n + (↑(sumBy cC (List.take k (Core.kids x))) : Int)), cI (n + (↑(sumBy cC (List.take k (Core.kids x))) : Int) + 1),
 Cell.list (List.map intC (seqM mkI cOne (Core.params (List.getD (Core.kids x) (Int.toNat (↑k : Int)) default)) (n + (↑(sumBy cC (List.take k (Core.kids x))) : Int) + 1 + 1))), cI
 (n + (↑(sumBy cC (List.take k (Core.kids x))) : Int) + 1 + 1 + (↑(List.length (Core.params (List.getD (Core.kids x) (Int.toNat (↑k : Int)) default))) : Int)), cI (n + (↑(sumBy cC
 (List.take k (Core.kids x))) : Int) + 1 + 1 + (↑(List.length (Core.params (List.getD (Core.kids x) (Int.toNat (↑k : Int)) default))) : Int) + 1), cS (mText (n + (↑(sumBy cC
 (List.take k (Core.kids x))) : Int) + 1 + 1 + (↑(List.length (Core.params (List.getD (Core.kids x) (Int.toNat (↑k : Int)) default))) : Int) + 1 + 1)), Cell.list (List.map datumC
 (Datum.items (Core.datum (List.getD (Core.kids x) (Int.toNat (↑k : Int)) default)))), Cell.list (List.map coreC (Core.kids (List.getD (Core.kids x) (Int.toNat (↑k : Int))
 default)))] = List.set (List.set (List.map coreC (mkTo mkC cC (Core.kids x) n k)) (Int.toNat (↑k : Int)) [cI (n + (↑(sumBy cC (List.take k (Core.kids x))) : Int)), cI (n +
 (↑(sumBy cC (List.take k (Core.kids x))) : Int) + 1), Cell.list (List.map intC (Core.params (List.getD (Core.kids x) (Int.toNat (↑k : Int)) default))), cI (Datum.kind (Core.datum
 (List.getD (Core.kids x) (Int.toNat (↑k : Int)) default))), cI (Datum.number (Core.datum (List.getD (Core.kids x) (Int.toNat (↑k : Int)) default))), cS (Datum.text (Core.datum
 (List.getD (Core.kids x) (Int.toNat (↑k : Int)) default))), Cell.list (List.map datumC (Datum.items (Core.datum (List.getD (Core.kids x) (Int.toNat (↑k : Int)) default)))),
 Cell.list (List.map coreC (Core.kids (List.getD (Core.kids x) (Int.toNat (↑k : Int)) default)))]) (Int.toNat (↑k : Int)) [cI (n + (↑(sumBy cC (List.take k (Core.kids x))) : Int)),
 cI (n + (↑(sumBy cC (List.take k (Core.kids x))) : Int) + 1), Cell.list (List.map intC (seqM mkI cOne (Core.params (List.getD (Core.kids x) (Int.toNat (↑k : Int)) default)) (n +
 (↑(sumBy cC (List.take k (Core.kids x))) : Int) + 1 + 1))), cI (n + (↑(sumBy cC (List.take k (Core.kids x))) : Int) + 1 + 1 + (↑(List.length (Core.params (List.getD (Core.kids x)
 (Int.toNat (↑k : Int)) default))) : Int)), cI (n + (↑(sumBy cC (List.take k (Core.kids x))) : Int) + 1 + 1 + (↑(List.length (Core.params (List.getD (Core.kids x) (Int.toNat (↑k :
 Int)) default))) : Int) + 1), cS (mText (n + (↑(sumBy cC (List.take k (Core.kids x))) : Int) + 1 + 1 + (↑(List.length (Core.params (List.getD (Core.kids x) (Int.toNat (↑k : Int))
 default))) : Int) + 1 + 1)), Cell.list (List.map datumC (Datum.items (Core.datum (List.getD (Core.kids x) (Int.toNat (↑k : Int)) default)))), Cell.list (List.map coreC (Core.kids
 (List.getD (Core.kids x) (Int.toNat (↑k : Int)) default)))] ∧ rng IntKind.i64 (n + (↑(sumBy cC (List.take k (Core.kids x))) : Int) + 1 + 1 + (↑(List.length (Core.params (List.getD
 (Core.kids x) (Int.toNat (↑k : Int)) default))) : Int) + 1 + 1 + 1) ∧ (0 ≤ (↑k : Int) ∧ Int.toNat (↑k : Int) < List.length (List.set (List.set (List.map coreC (mkTo mkC cC
 (Core.kids x) n k)) (Int.toNat (↑k : Int)) [cI (n + (↑(sumBy cC (List.take k (Core.kids x))) : Int)), cI (n + (↑(sumBy cC (List.take k (Core.kids x))) : Int) + 1), Cell.list
 (List.map intC (Core.params (List.getD (Core.kids x) (Int.toNat (↑k : Int)) default))), cI (Datum.kind (Core.datum (List.getD (Core.kids x) (Int.toNat (↑k : Int)) default))), cI
 (Datum.number (Core.datum (List.getD (Core.kids x) (Int.toNat (↑k : Int)) default))), cS (Datum.text (Core.datum (List.getD (Core.kids x) (Int.toNat (↑k : Int)) default))),
 Cell.list (List.map datumC (Datum.items (Core.datum (List.getD (Core.kids x) (Int.toNat (↑k : Int)) default)))), Cell.list (List.map coreC (Core.kids (List.getD (Core.kids x)
 (Int.toNat (↑k : Int)) default)))]) (Int.toNat (↑k : Int)) [cI (n + (↑(sumBy cC (List.take k (Core.kids x))) : Int)), cI (n + (↑(sumBy cC (List.take k (Core.kids x))) : Int) + 1),
 Cell.list (List.map intC (seqM mkI cOne (Core.params (List.getD (Core.kids x) (Int.toNat (↑k : Int)) default)) (n + (↑(sumBy cC (List.take k (Core.kids x))) : Int) + 1 + 1))), cI
 (n + (↑(sumBy cC (List.take k (Core.kids x))) : Int) + 1 + 1 + (↑(List.length (Core.params (List.getD (Core.kids x) (Int.toNat (↑k : Int)) default))) : Int)), cI (n + (↑(sumBy cC
 (List.take k (Core.kids x))) : Int) + 1 + 1 + (↑(List.length (Core.params (List.getD (Core.kids x) (Int.toNat (↑k : Int)) default))) : Int) + 1), cS (mText (n + (↑(sumBy cC
 (List.take k (Core.kids x))) : Int) + 1 + 1 + (↑(List.length (Core.params (List.getD (Core.kids x) (Int.toNat (↑k : Int)) default))) : Int) + 1 + 1)), Cell.list (List.map datumC
 (Datum.items (Core.datum (List.getD (Core.kids x) (Int.toNat (↑k : Int)) default)))), Cell.list (List.map coreC (Core.kids (List.getD (Core.kids x) (Int.toNat (↑k : Int))
 default)))])) ∧ Int.toNat (↑k : Int) < List.length (List.set (List.set (List.map coreC (mkTo mkC cC (Core.kids x) n k)) (Int.toNat (↑k : Int)) [cI (n + (↑(sumBy cC (List.take k
 (Core.kids x))) : Int)), cI (n + (↑(sumBy cC (List.take k (Core.kids x))) : Int) + 1), Cell.list (List.map intC (Core.params (List.getD (Core.kids x) (Int.toNat (↑k : Int))
 default))), cI (Datum.kind (Core.datum (List.getD (Core.kids x) (Int.toNat (↑k : Int)) default))), cI (Datum.number (Core.datum (List.getD (Core.kids x) (Int.toNat (↑k : Int))
 default))), cS (Datum.text (Core.datum (List.getD (Core.kids x) (Int.toNat (↑k : Int)) default))), Cell.list (List.map datumC (Datum.items (Core.datum (List.getD (Core.kids x)
 (Int.toNat (↑k : Int)) default)))), Cell.list (List.map coreC (Core.kids (List.getD (Core.kids x) (Int.toNat (↑k : Int)) default)))]) (Int.toNat (↑k : Int)) [cI (n + (↑(sumBy cC
 (List.take k (Core.kids x))) : Int)), cI (n + (↑(sumBy cC (List.take k (Core.kids x))) : Int) + 1), Cell.list (List.map intC (seqM mkI cOne (Core.params (List.getD (Core.kids x)
 (Int.toNat (↑k : Int)) default)) (n + (↑(sumBy cC (List.take k (Core.kids x))) : Int) + 1 + 1))), cI (n + (↑(sumBy cC (List.take k (Core.kids x))) : Int) + 1 + 1 + (↑(List.length
 (Core.params (List.getD (Core.kids x) (Int.toNat (↑k : Int)) default))) : Int)), cI (n + (↑(sumBy cC (List.take k (Core.kids x))) : Int) + 1 + 1 + (↑(List.length (Core.params
 (List.getD (Core.kids x) (Int.toNat (↑k : Int)) default))) : Int) + 1), cS (mText (n + (↑(sumBy cC (List.take k (Core.kids x))) : Int) + 1 + 1 + (↑(List.length (Core.params
 (List.getD (Core.kids x) (Int.toNat (↑k : Int)) default))) : Int) + 1 + 1)), Cell.list (List.map datumC (Datum.items (Core.datum (List.getD (Core.kids x) (Int.toNat (↑k : Int))
 default)))), Cell.list (List.map coreC (Core.kids (List.getD (Core.kids x) (Int.toNat (↑k : Int)) default)))]) ∧ (List.set (List.set (List.map coreC (mkTo mkC cC (Core.kids x) n
 k)) (Int.toNat (↑k : Int)) [cI (n + (↑(sumBy cC (List.take k (Core.kids x))) : Int)), cI (n + (↑(sumBy cC (List.take k (Core.kids x))) : Int) + 1), Cell.list (List.map intC
 (Core.params (List.getD (Core.kids x) (Int.toNat (↑k : Int)) default))), cI (Datum.kind (Core.datum (List.getD (Core.kids x) (Int.toNat (↑k : Int)) default))), cI (Datum.number
 (Core.datum (List.getD (Core.kids x) (Int.toNat (↑k : Int)) default))), cS (Datum.text (Core.datum (List.getD (Core.kids x) (Int.toNat (↑k : Int)) default))), Cell.list (List.map
 datumC (Datum.items (Core.datum (List.getD (Core.kids x) (Int.toNat (↑k : Int)) default)))), Cell.list (List.map coreC (Core.kids (List.getD (Core.kids x) (Int.toNat (↑k : Int))
 default)))]) (Int.toNat (↑k : Int)) [cI (n + (↑(sumBy cC (List.take k (Core.kids x))) : Int)), cI (n + (↑(sumBy cC (List.take k (Core.kids x))) : Int) + 1), Cell.list (List.map
 intC (seqM mkI cOne (Core.params (List.getD (Core.kids x) (Int.toNat (↑k : Int)) default)) (n + (↑(sumBy cC (List.take k (Core.kids x))) : Int) + 1 + 1))), cI (n + (↑(sumBy cC
 (List.take k (Core.kids x))) : Int) + 1 + 1 + (↑(List.length (Core.params (List.getD (Core.kids x) (Int.toNat (↑k : Int)) default))) : Int)), cI (n + (↑(sumBy cC (List.take k
 (Core.kids x))) : Int) + 1 + 1 + (↑(List.length (Core.params (List.getD (Core.kids x) (Int.toNat (↑k : Int)) default))) : Int) + 1), cS (mText (n + (↑(sumBy cC (List.take k
 (Core.kids x))) : Int) + 1 + 1 + (↑(List.length (Core.params (List.getD (Core.kids x) (Int.toNat (↑k : Int)) default))) : Int) + 1 + 1)), Cell.list (List.map datumC (Datum.items
 (Core.datum (List.getD (Core.kids x) (Int.toNat (↑k : Int)) default)))), Cell.list (List.map coreC (Core.kids (List.getD (Core.kids x) (Int.toNat (↑k : Int))
 default)))])[Int.toNat (↑k : Int)]? = some [cI (n + (↑(sumBy cC (List.take k (Core.kids x))) : Int)), cI (n + (↑(sumBy cC (List.take k (Core.kids x))) : Int) + 1), Cell.list
 (List.map intC (seqM mkI cOne (Core.params (List.getD (Core.kids x) (Int.toNat (↑k : Int)) default)) (n + (↑(sumBy cC (List.take k (Core.kids x))) : Int) + 1 + 1))), cI (n +
 (↑(sumBy cC (List.take k (Core.kids x))) : Int) + 1 + 1 + (↑(List.length (Core.params (List.getD (Core.kids x) (Int.toNat (↑k : Int)) default))) : Int)), cI (n + (↑(sumBy cC
 (List.take k (Core.kids x))) : Int) + 1 + 1 + (↑(List.length (Core.params (List.getD (Core.kids x) (Int.toNat (↑k : Int)) default))) : Int) + 1), cS (mText (n + (↑(sumBy cC
 (List.take k (Core.kids x))) : Int) + 1 + 1 + (↑(List.length (Core.params (List.getD (Core.kids x) (Int.toNat (↑k : Int)) default))) : Int) + 1 + 1)), Cell.list (List.map datumC
 (Datum.items (Core.datum (List.getD (Core.kids x) (Int.toNat (↑k : Int)) default)))), Cell.list (List.map coreC (Core.kids (List.getD (Core.kids x) (Int.toNat (↑k : Int))
 default)))] ∧ some (Cell.list (List.map datumC (Datum.items (Core.datum (List.getD (Core.kids x) (Int.toNat (↑k : Int)) default))))) = some (Cell.list (List.map datumC
 (Datum.items (Core.datum (List.getD (Core.kids x) (Int.toNat (↑k : Int)) default))))) ∧ (∀ (x_1 : List Cell), x_1 ∈ List.map datumC (Datum.items (Core.datum (List.getD (Core.kids
 x) (Int.toNat (↑k : Int)) default))) → List.length x_1 = 4) ∧ CallOK Try.prog (84 : FuncId) [Ob.arr true 4 (List.map datumC (Datum.items (Core.datum (List.getD (Core.kids x)
 (Int.toNat (↑k : Int)) default))))] [SV.one (AC.ref 0), li (n + (↑(sumBy cC (List.take k (Core.kids x))) : Int) + 1 + 1 + (↑(List.length (Core.params (List.getD (Core.kids x)
 (Int.toNat (↑k : Int)) default))) : Int) + 1 + 1 + 1)] [Ob.arr true 4 (List.map datumC (seqM mkD cD (Datum.items (Core.datum (List.getD (Core.kids x) (Int.toNat (↑k : Int))
 default))) (n + (↑(sumBy cC (List.take k (Core.kids x))) : Int) + 1 + 1 + (↑(List.length (Core.params (List.getD (Core.kids x) (Int.toNat (↑k : Int)) default))) : Int) + 1 + 1 +
 1)))] (AV.sv (li (n + (↑(sumBy cC (List.take k (Core.kids x))) : Int) + 1 + 1 + (↑(List.length (Core.params (List.getD (Core.kids x) (Int.toNat (↑k : Int)) default))) : Int) + 1 +
 1 + 1 + (↑(sumBy cD (Datum.items (Core.datum (List.getD (Core.kids x) (Int.toNat (↑k : Int)) default)))) : Int)))) ∧ (0 ≤ (↑k : Int) ∧ Int.toNat (↑k : Int) < List.length (List.set
 (List.set (List.set (List.map coreC (mkTo mkC cC (Core.kids x) n k)) (Int.toNat (↑k : Int)) [cI (n + (↑(sumBy cC (List.take k (Core.kids x))) : Int)), cI (n + (↑(sumBy cC
 (List.take k (Core.kids x))) : Int) + 1), Cell.list (List.map intC (Core.params (List.getD (Core.kids x) (Int.toNat (↑k : Int)) default))), cI (Datum.kind (Core.datum (List.getD
 (Core.kids x) (Int.toNat (↑k : Int)) default))), cI (Datum.number (Core.datum (List.getD (Core.kids x) (Int.toNat (↑k : Int)) default))), cS (Datum.text (Core.datum (List.getD
 (Core.kids x) (Int.toNat (↑k : Int)) default))), Cell.list (List.map datumC (Datum.items (Core.datum (List.getD (Core.kids x) (Int.toNat (↑k : Int)) default)))), Cell.list
 (List.map coreC (Core.kids (List.getD (Core.kids x) (Int.toNat (↑k : Int)) default)))]) (Int.toNat (↑k : Int)) [cI (n + (↑(sumBy cC (List.take k (Core.kids x))) : Int)), cI (n +
 (↑(sumBy cC (List.take k (Core.kids x))) : Int) + 1), Cell.list (List.map intC (seqM mkI cOne (Core.params (List.getD (Core.kids x) (Int.toNat (↑k : Int)) default)) (n + (↑(sumBy
 cC (List.take k (Core.kids x))) : Int) + 1 + 1))), cI (n + (↑(sumBy cC (List.take k (Core.kids x))) : Int) + 1 + 1 + (↑(List.length (Core.params (List.getD (Core.kids x)
 (Int.toNat (↑k : Int)) default))) : Int)), cI (n + (↑(sumBy cC (List.take k (Core.kids x))) : Int) + 1 + 1 + (↑(List.length (Core.params (List.getD (Core.kids x) (Int.toNat (↑k :
 Int)) default))) : Int) + 1), cS (mText (n + (↑(sumBy cC (List.take k (Core.kids x))) : Int) + 1 + 1 + (↑(List.length (Core.params (List.getD (Core.kids x) (Int.toNat (↑k : Int))
 default))) : Int) + 1 + 1)), Cell.list (List.map datumC (Datum.items (Core.datum (List.getD (Core.kids x) (Int.toNat (↑k : Int)) default)))), Cell.list (List.map coreC (Core.kids
 (List.getD (Core.kids x) (Int.toNat (↑k : Int)) default)))]) (Int.toNat (↑k : Int)) [cI (n + (↑(sumBy cC (List.take k (Core.kids x))) : Int)), cI (n + (↑(sumBy cC (List.take k
 (Core.kids x))) : Int) + 1), Cell.list (List.map intC (seqM mkI cOne (Core.params (List.getD (Core.kids x) (Int.toNat (↑k : Int)) default)) (n + (↑(sumBy cC (List.take k
 (Core.kids x))) : Int) + 1 + 1))), cI (n + (↑(sumBy cC (List.take k (Core.kids x))) : Int) + 1 + 1 + (↑(List.length (Core.params (List.getD (Core.kids x) (Int.toNat (↑k : Int))
 default))) : Int)), cI (n + (↑(sumBy cC (List.take k (Core.kids x))) : Int) + 1 + 1 + (↑(List.length (Core.params (List.getD (Core.kids x) (Int.toNat (↑k : Int)) default))) : Int)
 + 1), cS (mText (n + (↑(sumBy cC (List.take k (Core.kids x))) : Int) + 1 + 1 + (↑(List.length (Core.params (List.getD (Core.kids x) (Int.toNat (↑k : Int)) default))) : Int) + 1 +
 1)), Cell.list (List.map datumC (seqM mkD cD (Datum.items (Core.datum (List.getD (Core.kids x) (Int.toNat (↑k : Int)) default))) (n + (↑(sumBy cC (List.take k (Core.kids x))) :
 Int) + 1 + 1 + (↑(List.length (Core.params (List.getD (Core.kids x) (Int.toNat (↑k : Int)) default))) : Int) + 1 + 1 + 1))), Cell.list (List.map coreC (Core.kids (List.getD
 (Core.kids x) (Int.toNat (↑k : Int)) default)))])) ∧ Int.toNat (↑k : Int) < List.length (List.set (List.set (List.set (List.map coreC (mkTo mkC cC (Core.kids x) n k)) (Int.toNat
 (↑k : Int)) [cI (n + (↑(sumBy cC (List.take k (Core.kids x))) : Int)), cI (n + (↑(sumBy cC (List.take k (Core.kids x))) : Int) + 1), Cell.list (List.map intC (Core.params
 (List.getD (Core.kids x) (Int.toNat (↑k : Int)) default))), cI (Datum.kind (Core.datum (List.getD (Core.kids x) (Int.toNat (↑k : Int)) default))), cI (Datum.number (Core.datum
 (List.getD (Core.kids x) (Int.toNat (↑k : Int)) default))), cS (Datum.text (Core.datum (List.getD (Core.kids x) (Int.toNat (↑k : Int)) default))), Cell.list (List.map datumC
 (Datum.items (Core.datum (List.getD (Core.kids x) (Int.toNat (↑k : Int)) default)))), Cell.list (List.map coreC (Core.kids (List.getD (Core.kids x) (Int.toNat (↑k : Int))
 default)))]) (Int.toNat (↑k : Int)) [cI (n + (↑(sumBy cC (List.take k (Core.kids x))) : Int)), cI (n + (↑(sumBy cC (List.take k (Core.kids x))) : Int) + 1), Cell.list (List.map
 intC (seqM mkI cOne (Core.params (List.getD (Core.kids x) (Int.toNat (↑k : Int)) default)) (n + (↑(sumBy cC (List.take k (Core.kids x))) : Int) + 1 + 1))), cI (n + (↑(sumBy cC
 (List.take k (Core.kids x))) : Int) + 1 + 1 + (↑(List.length (Core.params (List.getD (Core.kids x) (Int.toNat (↑k : Int)) default))) : Int)), cI (n + (↑(sumBy cC (List.take k
 (Core.kids x))) : Int) + 1 + 1 + (↑(List.length (Core.params (List.getD (Core.kids x) (Int.toNat (↑k : Int)) default))) : Int) + 1), cS (mText (n + (↑(sumBy cC (List.take k
 (Core.kids x))) : Int) + 1 + 1 + (↑(List.length (Core.params (List.getD (Core.kids x) (Int.toNat (↑k : Int)) default))) : Int) + 1 + 1)), Cell.list (List.map datumC (Datum.items
 (Core.datum (List.getD (Core.kids x) (Int.toNat (↑k : Int)) default)))), Cell.list (List.map coreC (Core.kids (List.getD (Core.kids x) (Int.toNat (↑k : Int)) default)))])
 (Int.toNat (↑k : Int)) [cI (n + (↑(sumBy cC (List.take k (Core.kids x))) : Int)), cI (n + (↑(sumBy cC (List.take k (Core.kids x))) : Int) + 1), Cell.list (List.map intC (seqM mkI
 cOne (Core.params (List.getD (Core.kids x) (Int.toNat (↑k : Int)) default)) (n + (↑(sumBy cC (List.take k (Core.kids x))) : Int) + 1 + 1))), cI (n + (↑(sumBy cC (List.take k
 (Core.kids x))) : Int) + 1 + 1 + (↑(List.length (Core.params (List.getD (Core.kids x) (Int.toNat (↑k : Int)) default))) : Int)), cI (n + (↑(sumBy cC (List.take k (Core.kids x))) :
 Int) + 1 + 1 + (↑(List.length (Core.params (List.getD (Core.kids x) (Int.toNat (↑k : Int)) default))) : Int) + 1), cS (mText (n + (↑(sumBy cC (List.take k (Core.kids x))) : Int) +
 1 + 1 + (↑(List.length (Core.params (List.getD (Core.kids x) (Int.toNat (↑k : Int)) default))) : Int) + 1 + 1)), Cell.list (List.map datumC (seqM mkD cD (Datum.items (Core.datum
 (List.getD (Core.kids x) (Int.toNat (↑k : Int)) default))) (n + (↑(sumBy cC (List.take k (Core.kids x))) : Int) + 1 + 1 + (↑(List.length (Core.params (List.getD (Core.kids x)
 (Int.toNat (↑k : Int)) default))) : Int) + 1 + 1 + 1))), Cell.list (List.map coreC (Core.kids (List.getD (Core.kids x) (Int.toNat (↑k : Int)) default)))]) ∧ (List.set (List.set
 (List.set (List.map coreC (mkTo mkC cC (Core.kids x) n k)) (Int.toNat (↑k : Int)) [cI (n + (↑(sumBy cC (List.take k (Core.kids x))) : Int)), cI (n + (↑(sumBy cC (List.take k
 (Core.kids x))) : Int) + 1), Cell.list (List.map intC (Core.params (List.getD (Core.kids x) (Int.toNat (↑k : Int)) default))), cI (Datum.kind (Core.datum (List.getD (Core.kids x)
 (Int.toNat (↑k : Int)) default))), cI (Datum.number (Core.datum (List.getD (Core.kids x) (Int.toNat (↑k : Int)) default))), cS (Datum.text (Core.datum (List.getD (Core.kids x)
 (Int.toNat (↑k : Int)) default))), Cell.list (List.map datumC (Datum.items (Core.datum (List.getD (Core.kids x) (Int.toNat (↑k : Int)) default)))), Cell.list (List.map coreC
 (Core.kids (List.getD (Core.kids x) (Int.toNat (↑k : Int)) default)))]) (Int.toNat (↑k : Int)) [cI (n + (↑(sumBy cC (List.take k (Core.kids x))) : Int)), cI (n + (↑(sumBy cC
 (List.take k (Core.kids x))) : Int) + 1), Cell.list (List.map intC (seqM mkI cOne (Core.params (List.getD (Core.kids x) (Int.toNat (↑k : Int)) default)) (n + (↑(sumBy cC
 (List.take k (Core.kids x))) : Int) + 1 + 1))), cI (n + (↑(sumBy cC (List.take k (Core.kids x))) : Int) + 1 + 1 + (↑(List.length (Core.params (List.getD (Core.kids x) (Int.toNat
 (↑k : Int)) default))) : Int)), cI (n + (↑(sumBy cC (List.take k (Core.kids x))) : Int) + 1 + 1 + (↑(List.length (Core.params (List.getD (Core.kids x) (Int.toNat (↑k : Int))
 default))) : Int) + 1), cS (mText (n + (↑(sumBy cC (List.take k (Core.kids x))) : Int) + 1 + 1 + (↑(List.length (Core.params (List.getD (Core.kids x) (Int.toNat (↑k : Int))
 default))) : Int) + 1 + 1)), Cell.list (List.map datumC (Datum.items (Core.datum (List.getD (Core.kids x) (Int.toNat (↑k : Int)) default)))), Cell.list (List.map coreC (Core.kids
 (List.getD (Core.kids x) (Int.toNat (↑k : Int)) default)))]) (Int.toNat (↑k : Int)) [cI (n + (↑(sumBy cC (List.take k (Core.kids x))) : Int)), cI (n + (↑(sumBy cC (List.take k
 (Core.kids x))) : Int) + 1), Cell.list (List.map intC (seqM mkI cOne (Core.params (List.getD (Core.kids x) (Int.toNat (↑k : Int)) default)) (n + (↑(sumBy cC (List.take k
 (Core.kids x))) : Int) + 1 + 1))), cI (n + (↑(sumBy cC (List.take k (Core.kids x))) : Int) + 1 + 1 + (↑(List.length (Core.params (List.getD (Core.kids x) (Int.toNat (↑k : Int))
 default))) : Int)), cI (n + (↑(sumBy cC (List.take k (Core.kids x))) : Int) + 1 + 1 + (↑(List.length (Core.params (List.getD (Core.kids x) (Int.toNat (↑k : Int)) default))) : Int)
 + 1), cS (mText (n + (↑(sumBy cC (List.take k (Core.kids x))) : Int) + 1 + 1 + (↑(List.length (Core.params (List.getD (Core.kids x) (Int.toNat (↑k : Int)) default))) : Int) + 1 +
 1)), Cell.list (List.map datumC (seqM mkD cD (Datum.items (Core.datum (List.getD (Core.kids x) (Int.toNat (↑k : Int)) default))) (n + (↑(sumBy cC (List.take k (Core.kids x))) :
 Int) + 1 + 1 + (↑(List.length (Core.params (List.getD (Core.kids x) (Int.toNat (↑k : Int)) default))) : Int) + 1 + 1 + 1))), Cell.list (List.map coreC (Core.kids (List.getD
 (Core.kids x) (Int.toNat (↑k : Int)) default)))])[Int.toNat (↑k : Int)]? = some [cI (n + (↑(sumBy cC (List.take k (Core.kids x))) : Int)), cI (n + (↑(sumBy cC (List.take k
 (Core.kids x))) : Int) + 1), Cell.list (List.map intC (seqM mkI cOne (Core.params (List.getD (Core.kids x) (Int.toNat (↑k : Int)) default)) (n + (↑(sumBy cC (List.take k
 (Core.kids x))) : Int) + 1 + 1))), cI (n + (↑(sumBy cC (List.take k (Core.kids x))) : Int) + 1 + 1 + (↑(List.length (Core.params (List.getD (Core.kids x) (Int.toNat (↑k : Int))
 default))) : Int)), cI (n + (↑(sumBy cC (List.take k (Core.kids x))) : Int) + 1 + 1 + (↑(List.length (Core.params (List.getD (Core.kids x) (Int.toNat (↑k : Int)) default))) : Int)
 + 1), cS (mText (n + (↑(sumBy cC (List.take k (Core.kids x))) : Int) + 1 + 1 + (↑(List.length (Core.params (List.getD (Core.kids x) (Int.toNat (↑k : Int)) default))) : Int) + 1 +
 1)), Cell.list (List.map datumC (seqM mkD cD (Datum.items (Core.datum (List.getD (Core.kids x) (Int.toNat (↑k : Int)) default))) (n + (↑(sumBy cC (List.take k (Core.kids x))) :
 Int) + 1 + 1 + (↑(List.length (Core.params (List.getD (Core.kids x) (Int.toNat (↑k : Int)) default))) : Int) + 1 + 1 + 1))), Cell.list (List.map coreC (Core.kids (List.getD
 (Core.kids x) (Int.toNat (↑k : Int)) default)))] ∧ some (Cell.list (List.map coreC (Core.kids (List.getD (Core.kids x) (Int.toNat (↑k : Int)) default)))) = some (Cell.list
 (List.map coreC (Core.kids (List.getD (Core.kids x) (Int.toNat (↑k : Int)) default)))) ∧ (∀ (x_1 : List Cell), x_1 ∈ List.map coreC (Core.kids (List.getD (Core.kids x) (Int.toNat
 (↑k : Int)) default)) → List.length x_1 = 8) ∧ CallOK Try.prog (73 : FuncId) [Ob.arr true 8 (List.map coreC (Core.kids (List.getD (Core.kids x) (Int.toNat (↑k : Int)) default)))]
 [SV.one (AC.ref 0), li (n + (↑(sumBy cC (List.take k (Core.kids x))) : Int) + 1 + 1 + (↑(List.length (Core.params (List.getD (Core.kids x) (Int.toNat (↑k : Int)) default))) : Int)
 + 1 + 1 + 1 + (↑(sumBy cD (Datum.items (Core.datum (List.getD (Core.kids x) (Int.toNat (↑k : Int)) default)))) : Int))] [Ob.arr true 8 (List.map coreC (seqM mkC cC (Core.kids
 (List.getD (Core.kids x) (Int.toNat (↑k : Int)) default)) (n + (↑(sumBy cC (List.take k (Core.kids x))) : Int) + 1 + 1 + (↑(List.length (Core.params (List.getD (Core.kids x)
 (Int.toNat (↑k : Int)) default))) : Int) + 1 + 1 + 1 + (↑(sumBy cD (Datum.items (Core.datum (List.getD (Core.kids x) (Int.toNat (↑k : Int)) default)))) : Int))))] (AV.sv (li (n +
 (↑(sumBy cC (List.take k (Core.kids x))) : Int) + 1 + 1 + (↑(List.length (Core.params (List.getD (Core.kids x) (Int.toNat (↑k : Int)) default))) : Int) + 1 + 1 + 1 + (↑(sumBy cD
 (Datum.items (Core.datum (List.getD (Core.kids x) (Int.toNat (↑k : Int)) default)))) : Int) + (↑(sumBy cC (Core.kids (List.getD (Core.kids x) (Int.toNat (↑k : Int)) default))) :
 Int)))) ∧ rng IntKind.i64 ((↑k : Int) + 1) ∧ List.length (Core.kids x) - (k + 1) < List.length (Core.kids x) - k ∧ Tc_markCoreS_sLa x n (li ((↑k : Int) + 1)) (li (n + (↑(sumBy cC
 (List.take k (Core.kids x))) : Int) + 1 + 1 + (↑(List.length (Core.params (List.getD (Core.kids x) (Int.toNat (↑k : Int)) default))) : Int) + 1 + 1 + 1 + (↑(sumBy cD (Datum.items
 (Core.datum (List.getD (Core.kids x) (Int.toNat (↑k : Int)) default)))) : Int) + (↑(sumBy cC (Core.kids (List.getD (Core.kids x) (Int.toNat (↑k : Int)) default))) : Int))) (Ob.arr
 true 8 (List.set (List.set (List.set (List.set (List.map coreC (mkTo mkC cC (Core.kids x) n k)) (Int.toNat (↑k : Int)) [cI (n + (↑(sumBy cC (List.take k (Core.kids x))) : Int)),
 cI (n + (↑(sumBy cC (List.take k (Core.kids x))) : Int) + 1), Cell.list (List.map intC (Core.params (List.getD (Core.kids x) (Int.toNat (↑k : Int)) default))), cI (Datum.kind
 (Core.datum (List.getD (Core.kids x) (Int.toNat (↑k : Int)) default))), cI (Datum.number (Core.datum (List.getD (Core.kids x) (Int.toNat (↑k : Int)) default))), cS (Datum.text
 (Core.datum (List.getD (Core.kids x) (Int.toNat (↑k : Int)) default))), Cell.list (List.map datumC (Datum.items (Core.datum (List.getD (Core.kids x) (Int.toNat (↑k : Int))
 default)))), Cell.list (List.map coreC (Core.kids (List.getD (Core.kids x) (Int.toNat (↑k : Int)) default)))]) (Int.toNat (↑k : Int)) [cI (n + (↑(sumBy cC (List.take k (Core.kids
 x))) : Int)), cI (n + (↑(sumBy cC (List.take k (Core.kids x))) : Int) + 1), Cell.list (List.map intC (seqM mkI cOne (Core.params (List.getD (Core.kids x) (Int.toNat (↑k : Int))
 default)) (n + (↑(sumBy cC (List.take k (Core.kids x))) : Int) + 1 + 1))), cI (n + (↑(sumBy cC (List.take k (Core.kids x))) : Int) + 1 + 1 + (↑(List.length (Core.params (List.getD
 (Core.kids x) (Int.toNat (↑k : Int)) default))) : Int)), cI (n + (↑(sumBy cC (List.take k (Core.kids x))) : Int) + 1 + 1 + (↑(List.length (Core.params (List.getD (Core.kids x)
 (Int.toNat (↑k : Int)) default))) : Int) + 1), cS (mText (n + (↑(sumBy cC (List.take k (Core.kids x))) : Int) + 1 + 1 + (↑(List.length (Core.params (List.getD (Core.kids x)
 (Int.toNat (↑k : Int)) default))) : Int) + 1 + 1)), Cell.list (List.map datumC (Datum.items (Core.datum (List.getD (Core.kids x) (Int.toNat (↑k : Int)) default)))), Cell.list
 (List.map coreC (Core.kids (List.getD (Core.kids x) (Int.toNat (↑k : Int)) default)))]) (Int.toNat (↑k : Int)) [cI (n + (↑(sumBy cC (List.take k (Core.kids x))) : Int)), cI (n +
 (↑(sumBy cC (List.take k (Core.kids x))) : Int) + 1), Cell.list (List.map intC (seqM mkI cOne (Core.params (List.getD (Core.kids x) (Int.toNat (↑k : Int)) default)) (n + (↑(sumBy
 cC (List.take k (Core.kids x))) : Int) + 1 + 1))), cI (n + (↑(sumBy cC (List.take k (Core.kids x))) : Int) + 1 + 1 + (↑(List.length (Core.params (List.getD (Core.kids x)
 (Int.toNat (↑k : Int)) default))) : Int)), cI (n + (↑(sumBy cC (List.take k (Core.kids x))) : Int) + 1 + 1 + (↑(List.length (Core.params (List.getD (Core.kids x) (Int.toNat (↑k :
 Int)) default))) : Int) + 1), cS (mText (n + (↑(sumBy cC (List.take k (Core.kids x))) : Int) + 1 + 1 + (↑(List.length (Core.params (List.getD (Core.kids x) (Int.toNat (↑k : Int))
 default))) : Int) + 1 + 1)), Cell.list (List.map datumC (seqM mkD cD (Datum.items (Core.datum (List.getD (Core.kids x) (Int.toNat (↑k : Int)) default))) (n + (↑(sumBy cC
 (List.take k (Core.kids x))) : Int) + 1 + 1 + (↑(List.length (Core.params (List.getD (Core.kids x) (Int.toNat (↑k : Int)) default))) : Int) + 1 + 1 + 1))), Cell.list (List.map
 coreC (Core.kids (List.getD (Core.kids x) (Int.toNat (↑k : Int)) default)))]) (Int.toNat (↑k : Int)) [cI (n + (↑(sumBy cC (List.take k (Core.kids x))) : Int)), cI (n + (↑(sumBy cC
 (List.take k (Core.kids x))) : Int) + 1), Cell.list (List.map intC (seqM mkI cOne (Core.params (List.getD (Core.kids x) (Int.toNat (↑k : Int)) default)) (n + (↑(sumBy cC
 (List.take k (Core.kids x))) : Int) + 1 + 1))), cI (n + (↑(sumBy cC (List.take k (Core.kids x))) : Int) + 1 + 1 + (↑(List.length (Core.params (List.getD (Core.kids x) (Int.toNat
 (↑k : Int)) default))) : Int)), cI (n + (↑(sumBy cC (List.take k (Core.kids x))) : Int) + 1 + 1 + (↑(List.length (Core.params (List.getD (Core.kids x) (Int.toNat (↑k : Int))
 default))) : Int) + 1), cS (mText (n + (↑(sumBy cC (List.take k (Core.kids x))) : Int) + 1 + 1 + (↑(List.length (Core.params (List.getD (Core.kids x) (Int.toNat (↑k : Int))
 default))) : Int) + 1 + 1)), Cell.list (List.map datumC (seqM mkD cD (Datum.items (Core.datum (List.getD (Core.kids x) (Int.toNat (↑k : Int)) default))) (n + (↑(sumBy cC
 (List.take k (Core.kids x))) : Int) + 1 + 1 + (↑(List.length (Core.params (List.getD (Core.kids x) (Int.toNat (↑k : Int)) default))) : Int) + 1 + 1 + 1))), Cell.list (List.map
 coreC (seqM mkC cC (Core.kids (List.getD (Core.kids x) (Int.toNat (↑k : Int)) default)) (n + (↑(sumBy cC (List.take k (Core.kids x))) : Int) + 1 + 1 + (↑(List.length (Core.params
 (List.getD (Core.kids x) (Int.toNat (↑k : Int)) default))) : Int) + 1 + 1 + 1 + (↑(sumBy cD (Datum.items (Core.datum (List.getD (Core.kids x) (Int.toNat (↑k : Int)) default)))) :
 Int))))])) = Lc_markCoreS_sLa x n (k + 1) ∧ Ic_markCoreS_sLa x n (List.length (Core.kids x) - (k + 1)) (Lc_markCoreS_sLa x n (k + 1))) ∧ (decide ((↑k : Int) < (↑(List.length
 (List.map coreC (mkTo mkC cC (Core.kids x) n k))) : Int)) = false → True ∧ W0c_markCoreS_sLa x n (li (n + (↑(sumBy cC (List.take k (Core.kids x))) : Int))) (Ob.arr true 8
 (List.map coreC (mkTo mkC cC (Core.kids x) n k))) = W0c_markCoreS_sLa x n (li (n + (↑(sumBy cC (Core.kids x)) : Int))) (Ob.arr true 8 (List.map coreC (seqM mkC cC (Core.kids x)
 n))))) := by kernel_rfl
theorem Sc_markCoreS_sLa (x : Core) (n : Int) (h0 : 0 ≤ n) (h : n + (↑(sumBy cC (Core.kids x)) : Int) ≤ 2147483647) (ih : ∀ (z : Core), z ∈ Core.kids x → ∀ (n : Int), 0 ≤ n → n +
 (↑(sumBy cC (Core.kids z)) : Int) ≤ 2147483647 → CallOK Try.prog (73 : FuncId) [Ob.arr true 8 (List.map coreC (Core.kids z))] [SV.one (AC.ref 0), li n] [Ob.arr true 8 (List.map
 coreC (seqM mkC cC (Core.kids z) n))] (AV.sv (li (n + (↑(sumBy cC (Core.kids z)) : Int)))))  : LoopSem Try.prog (loopAt Try.f73 0) (Ic_markCoreS_sLa x n) (Yc_markCoreS_sLa x n) :=
 by
  refine LoopSem.ofHead wide fun k h => ⟨_, _, run_c_markCoreS_sLa x n k, ?_⟩
  have g0 := sumBy_takeLe cC x.kids (k + 1)
  with_reducible repeat' (first | apply And.intro | (intro; skip) | apply Hc_markCoreS_sLa | apply Ec_markCoreS_sLa | apply c_markText | apply c_markDatumS | apply c_markIntS | apply ih)
  all_goals (try simp only [size_list, List.length_map, Int.toNat_natCast, rng64, obsEq_iff, List.length_append, List.length_replicate, fillTo_len, decide_eq_true_eq, decide_eq_false_iff_not, ne_eq, lb_inj, li_inj, ls_inj, mk_toArray, tx_mkS, mkS_inj, size_mkS, mkTo_len, mkTo_zero, cOne_sum, seqM_len, List.length_set, List.set_set, List.take_zero, sumBy, Int.natCast_zero, Int.add_zero] at *)
  all_goals (try (first | with_reducible rfl | omega | assumption | exact getC (by first | omega | (simp only [fillTo_len, mkTo_len]; omega) | grind) rfl | exact outcomeGet (by first | omega | (simp only [fillTo_len, mkTo_len]; omega) | grind) | exact datumGet (by first | omega | (simp only [fillTo_len, mkTo_len]; omega) | grind) | exact coreGet (by first | omega | (simp only [fillTo_len, mkTo_len]; omega) | grind) | exact congrArg (Ob.arr true _) (fill_step (by first | omega | (simp only [fillTo_len, mkTo_len]; omega) | grind) (by first | rfl | exact outcomeC_eq _ | exact datumC_eq _ | exact coreC_eq _)) | exact congrArg (Ob.arr true _) (fill_init (by first | rfl | exact outcomeC_eq _ | exact datumC_eq _ | exact coreC_eq _)) | exact set_row (by simp only [List.length_map, List.length_set, mkTo_len]; omega) | exact (by first | exact rowLen intC_len (by assumption) | exact rowLen strC_len (by assumption) | exact rowLen outcomeC_len (by assumption) | exact rowLen datumC_len (by assumption) | exact rowLen coreC_len (by assumption)) | exact mkTo_row (by first | omega | (simp only [fillTo_len, mkTo_len]; omega) | grind) (by first | rfl | exact outcomeC_eq _ | exact datumC_eq _ | exact coreC_eq _) | exact congrArg (Ob.arr true _) (mkTo_step (by first | omega | (simp only [fillTo_len, mkTo_len]; omega) | grind) (by grind [sumBy_step, getD_mem', cC_eq, mkC_C, mkTo_all])) | grind [sumBy_step, getD_mem', cC_eq, mkC_C, mkTo_all]))
theorem run_c_markCoreS_s (x : Core) (n : Int) : aexec Try.prog (Option.getD (Func.body Try.f73) Code.skip) (entry [Ob.arr true 8 (List.map coreC (Core.kids x))] [SV.one (AC.ref
 0), li n] 74) [Orc.ghost (Ghost.sel [0] [0, 1, 5]), Orc.loop (List.length (Core.kids x) - 0) (Lc_markCoreS_sLa x n 0) (Ic_markCoreS_sLa x n) [(True, AEx.exit 0, W0c_markCoreS_sLa
 x n (li (n + (↑(sumBy cC (Core.kids x)) : Int))) (Ob.arr true 8 (List.map coreC (seqM mkC cC (Core.kids x) n))), [Orc.fin []])]] (finK Try.prog [ResultVar.tmp 4] [Ob.arr true 8
 (List.map coreC (seqM mkC cC (Core.kids x) n))] (AV.sv (li (n + (↑(sumBy cC (Core.kids x)) : Int))))) = (Tc_markCoreS_sLa x n (li 0) (li n) (Ob.arr true 8 (List.map coreC
 (Core.kids x))) = Lc_markCoreS_sLa x n 0 ∧ Ic_markCoreS_sLa x n (List.length (Core.kids x) - 0) (Lc_markCoreS_sLa x n 0) ∧ LoopSem Try.prog (loopAt Try.f73 0) (Ic_markCoreS_sLa x
 n) (Yc_markCoreS_sLa x n) ∧ (True → ObsEq [Ob.arr true 8 (List.map coreC (seqM mkC cC (Core.kids x) n))] [Ob.arr true 8 (List.map coreC (seqM mkC cC (Core.kids x) n))] ∧ AV.sv (li
 (n + (↑(sumBy cC (Core.kids x)) : Int))) = AV.sv (li (n + (↑(sumBy cC (Core.kids x)) : Int)))) ∧ True) := by kernel_rfl
theorem c_markCoreS_s (x : Core) (n : Int) (h0 : 0 ≤ n) (h : n + sumBy cC x.kids ≤ 2147483647) (ih : ∀ z ∈ x.kids, ∀ (n : Int) (h0 : 0 ≤ n) (h : n + sumBy cC z.kids ≤ 2147483647),
 CallOK Try.prog 73 [.arr true 8 (z.kids.map coreC)] [.one (.ref 0), li n] [.arr true 8 ((seqM mkC cC z.kids n).map coreC)] (.sv (li (n + sumBy cC z.kids))))  : CallOK Try.prog 73
 [.arr true 8 (x.kids.map coreC)] [.one (.ref 0), li n] [.arr true 8 ((seqM mkC cC x.kids n).map coreC)] (.sv (li (n + sumBy cC x.kids))) := by
  refine CallOK.ofRun wide (run_c_markCoreS_s x n) Try.call73 Try.func73 rfl rfl rfl ?_
  with_reducible repeat' (first | apply And.intro | (intro; skip) | apply Hc_markCoreS_sLa | apply Ec_markCoreS_sLa | apply Sc_markCoreS_sLa | apply c_markText | apply c_markDatumS | apply c_markIntS)
  all_goals (try simp only [size_list, List.length_map, Int.toNat_natCast, rng64, obsEq_iff, List.length_append, List.length_replicate, fillTo_len, decide_eq_true_eq, decide_eq_false_iff_not, ne_eq, lb_inj, li_inj, ls_inj, mk_toArray, tx_mkS, mkS_inj, size_mkS, mkTo_len, mkTo_zero, cOne_sum, seqM_len, List.length_set, List.set_set, List.take_zero, sumBy, Int.natCast_zero, Int.add_zero] at *)
  all_goals (try (first | with_reducible rfl | omega | assumption | exact getC (by first | omega | (simp only [fillTo_len, mkTo_len]; omega) | grind) rfl | exact outcomeGet (by first | omega | (simp only [fillTo_len, mkTo_len]; omega) | grind) | exact datumGet (by first | omega | (simp only [fillTo_len, mkTo_len]; omega) | grind) | exact coreGet (by first | omega | (simp only [fillTo_len, mkTo_len]; omega) | grind) | exact congrArg (Ob.arr true _) (fill_step (by first | omega | (simp only [fillTo_len, mkTo_len]; omega) | grind) (by first | rfl | exact outcomeC_eq _ | exact datumC_eq _ | exact coreC_eq _)) | exact congrArg (Ob.arr true _) (fill_init (by first | rfl | exact outcomeC_eq _ | exact datumC_eq _ | exact coreC_eq _)) | exact set_row (by simp only [List.length_map, List.length_set, mkTo_len]; omega) | exact (by first | exact rowLen intC_len (by assumption) | exact rowLen strC_len (by assumption) | exact rowLen outcomeC_len (by assumption) | exact rowLen datumC_len (by assumption) | exact rowLen coreC_len (by assumption)) | exact mkTo_row (by first | omega | (simp only [fillTo_len, mkTo_len]; omega) | grind) (by first | rfl | exact outcomeC_eq _ | exact datumC_eq _ | exact coreC_eq _) | exact congrArg (Ob.arr true _) (mkTo_step (by first | omega | (simp only [fillTo_len, mkTo_len]; omega) | grind) (by grind [mkTo_all])) | grind [mkTo_all]))

theorem c_markCoreS (x : Core) : ∀ (n : Int) (h0 : 0 ≤ n) (h : n + sumBy cC x.kids ≤ 2147483647), CallOK Try.prog 73 [.arr true 8 (x.kids.map coreC)] [.one (.ref 0), li n] [.arr true 8 ((seqM mkC cC x.kids n).map coreC)] (.sv (li (n + sumBy cC x.kids))) := Core.ind (P := fun x => ∀ (n : Int) (h0 : 0 ≤ n) (h : n + sumBy cC x.kids ≤ 2147483647), CallOK Try.prog 73 [.arr true 8 (x.kids.map coreC)] [.one (.ref 0), li n] [.arr true 8 ((seqM mkC cC x.kids n).map coreC)] (.sv (li (n + sumBy cC x.kids)))) (fun x ih n h0 h => c_markCoreS_s x n h0 h ih) x

theorem run_c_markCore (x : Core) (n : Int) : aexec Try.prog (Option.getD (Func.body Try.f42) Code.skip) (entry [Ob.arr true 1 (List.map intC (Core.params x)), Ob.arr true 4
 (List.map datumC (Datum.items (Core.datum x))), Ob.arr true 8 (List.map coreC (Core.kids x))] [SV.agg [vI (Core.kind x), vI (Core.number x), AC.ref 0, vI (Datum.kind (Core.datum
 x)), vI (Datum.number (Core.datum x)), vS (Datum.text (Core.datum x)), AC.ref 1, AC.ref 2], li n] 18) [Orc.call [Mode.own true 1, Mode.rd] [Ob.arr true 1 (List.map intC (seqM mkI
 cOne (Core.params x) n))] (AV.sv (li (n + (↑(List.length (Core.params x)) : Int)))), Orc.call [Mode.agg [none, none, none, some (true, 4)], Mode.rd] [Ob.arr true 4 (List.map
 datumC (seqM mkD cD (Datum.items (Core.datum x)) (n + (↑(List.length (Core.params x)) : Int))))] (AV.sv (li (n + (↑(List.length (Core.params x)) : Int) + (↑(sumBy cD (Datum.items
 (Core.datum x))) : Int)))), Orc.call [Mode.own true 8, Mode.rd] [Ob.arr true 8 (List.map coreC (seqM mkC cC (Core.kids x) (n + (↑(List.length (Core.params x)) : Int) + (↑(sumBy cD
 (Datum.items (Core.datum x))) : Int))))] (AV.sv (li (n + (↑(List.length (Core.params x)) : Int) + (↑(sumBy cD (Datum.items (Core.datum x))) : Int) + (↑(sumBy cC (Core.kids x)) :
 Int)))), Orc.fin []] (finK Try.prog [ResultVar.tmp 4] [Ob.arr true 1 (List.map intC (seqM mkI cOne (Core.params x) n)), Ob.arr true 4 (List.map datumC (seqM mkD cD (Datum.items
 (Core.datum x)) (n + (↑(List.length (Core.params x)) : Int)))), Ob.arr true 8 (List.map coreC (seqM mkC cC (Core.kids x) (n + (↑(List.length (Core.params x)) : Int) + (↑(sumBy cD
 (Datum.items (Core.datum x))) : Int))))] (AV.sv (li (n + (↑(List.length (Core.params x)) : Int) + (↑(sumBy cD (Datum.items (Core.datum x))) : Int) + (↑(sumBy cC (Core.kids x)) :
 Int))))) = (CallOK Try.prog (43 : FuncId) [Ob.arr true 1 (List.map intC (Core.params x))] [SV.one (AC.ref 0), li n] [Ob.arr true 1 (List.map intC (seqM mkI cOne (Core.params x)
 n))] (AV.sv (li (n + (↑(List.length (Core.params x)) : Int)))) ∧ CallOK Try.prog (72 : FuncId) [Ob.arr true 4 (List.map datumC (Datum.items (Core.datum x)))] [SV.agg [vI
 (Datum.kind (Core.datum x)), vI (Datum.number (Core.datum x)), vS (Datum.text (Core.datum x)), AC.ref 0], li (n + (↑(List.length (Core.params x)) : Int))] [Ob.arr true 4 (List.map
 datumC (seqM mkD cD (Datum.items (Core.datum x)) (n + (↑(List.length (Core.params x)) : Int))))] (AV.sv (li (n + (↑(List.length (Core.params x)) : Int) + (↑(sumBy cD (Datum.items
 (Core.datum x))) : Int)))) ∧ CallOK Try.prog (73 : FuncId) [Ob.arr true 8 (List.map coreC (Core.kids x))] [SV.one (AC.ref 0), li (n + (↑(List.length (Core.params x)) : Int) +
 (↑(sumBy cD (Datum.items (Core.datum x))) : Int))] [Ob.arr true 8 (List.map coreC (seqM mkC cC (Core.kids x) (n + (↑(List.length (Core.params x)) : Int) + (↑(sumBy cD (Datum.items
 (Core.datum x))) : Int))))] (AV.sv (li (n + (↑(List.length (Core.params x)) : Int) + (↑(sumBy cD (Datum.items (Core.datum x))) : Int) + (↑(sumBy cC (Core.kids x)) : Int)))) ∧
 ObsEq [Ob.arr true 1 (List.map intC (seqM mkI cOne (Core.params x) n)), Ob.arr true 4 (List.map datumC (seqM mkD cD (Datum.items (Core.datum x)) (n + (↑(List.length (Core.params
 x)) : Int)))), Ob.arr true 8 (List.map coreC (seqM mkC cC (Core.kids x) (n + (↑(List.length (Core.params x)) : Int) + (↑(sumBy cD (Datum.items (Core.datum x))) : Int))))] [Ob.arr
 true 1 (List.map intC (seqM mkI cOne (Core.params x) n)), Ob.arr true 4 (List.map datumC (seqM mkD cD (Datum.items (Core.datum x)) (n + (↑(List.length (Core.params x)) : Int)))),
 Ob.arr true 8 (List.map coreC (seqM mkC cC (Core.kids x) (n + (↑(List.length (Core.params x)) : Int) + (↑(sumBy cD (Datum.items (Core.datum x))) : Int))))] ∧ AV.sv (li (n +
 (↑(List.length (Core.params x)) : Int) + (↑(sumBy cD (Datum.items (Core.datum x))) : Int) + (↑(sumBy cC (Core.kids x)) : Int))) = AV.sv (li (n + (↑(List.length (Core.params x)) :
 Int) + (↑(sumBy cD (Datum.items (Core.datum x))) : Int) + (↑(sumBy cC (Core.kids x)) : Int)))) := by kernel_rfl
theorem c_markCore (x : Core) (n : Int) (h0 : 0 ≤ n) (h : n + cC x ≤ 2147483647)  : CallOK Try.prog 42 [.arr true 1 (x.params.map intC), .arr true 4 (x.datum.items.map datumC),
 .arr true 8 (x.kids.map coreC)] [.agg [vI x.kind, vI x.number, .ref 0, vI x.datum.kind, vI x.datum.number, vS x.datum.text, .ref 1, .ref 2], li n] [.arr true 1 ((seqM mkI cOne
 x.params n).map intC), .arr true 4 ((seqM mkD cD x.datum.items (n + x.params.length)).map datumC), .arr true 8 ((seqM mkC cC x.kids (n + x.params.length + sumBy cD
 x.datum.items)).map coreC)] (.sv (li (n + x.params.length + sumBy cD x.datum.items + sumBy cC x.kids))) := by
  refine CallOK.ofRun wide (run_c_markCore x n) Try.call42 Try.func42 rfl rfl rfl ?_
  with_reducible repeat' (first | apply And.intro | (intro; skip) | apply c_markDatum | apply c_markIntS | apply c_markCoreS)
  all_goals (try simp only [size_list, List.length_map, Int.toNat_natCast, rng64, obsEq_iff, List.length_append, List.length_replicate, fillTo_len, decide_eq_true_eq, decide_eq_false_iff_not, ne_eq, lb_inj, li_inj, ls_inj, mk_toArray, tx_mkS, mkS_inj, size_mkS, mkTo_len, mkTo_zero, cOne_sum, seqM_len, List.length_set, List.set_set, List.take_zero, sumBy, Int.natCast_zero, Int.add_zero] at *)
  all_goals (try (first | with_reducible rfl | omega | assumption | exact getC (by first | omega | (simp only [fillTo_len, mkTo_len]; omega) | grind) rfl | exact outcomeGet (by first | omega | (simp only [fillTo_len, mkTo_len]; omega) | grind) | exact datumGet (by first | omega | (simp only [fillTo_len, mkTo_len]; omega) | grind) | exact coreGet (by first | omega | (simp only [fillTo_len, mkTo_len]; omega) | grind) | exact congrArg (Ob.arr true _) (fill_step (by first | omega | (simp only [fillTo_len, mkTo_len]; omega) | grind) (by first | rfl | exact outcomeC_eq _ | exact datumC_eq _ | exact coreC_eq _)) | exact congrArg (Ob.arr true _) (fill_init (by first | rfl | exact outcomeC_eq _ | exact datumC_eq _ | exact coreC_eq _)) | exact set_row (by simp only [List.length_map, List.length_set, mkTo_len]; omega) | exact (by first | exact rowLen intC_len (by assumption) | exact rowLen strC_len (by assumption) | exact rowLen outcomeC_len (by assumption) | exact rowLen datumC_len (by assumption) | exact rowLen coreC_len (by assumption)) | exact mkTo_row (by first | omega | (simp only [fillTo_len, mkTo_len]; omega) | grind) (by first | rfl | exact outcomeC_eq _ | exact datumC_eq _ | exact coreC_eq _) | exact congrArg (Ob.arr true _) (mkTo_step (by first | omega | (simp only [fillTo_len, mkTo_len]; omega) | grind) (by grind [cC_eq])) | grind [cC_eq]))

end Go.Proofs.Ytjaahbkdpodbbaa
