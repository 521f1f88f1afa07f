/- Part 2 of the proof: The program's MatchPattern returns what the reference's returns, for all arguments. No condition. -/
import Derived.Test.YtpnaoendfpaodaaGreatMtP1
section
namespace Go.Proofs.YtpnaoendfpaodaaGreat
open Go Go.Proofs.YtpnaoendfpaodaaGreat.Ab
set_option linter.unusedVariables false
set_option linter.unusedSimpArgs false
def capF (p f : Syntax) : Capture := ⟨p, 0, f, []⟩
mutual
/-- the variables of a pattern, in their order -/
def nm (H : Syntax → Bool) (A : List Syntax → Int) : Syntax → Int → List Capture
  | ⟨k, n, t, s, l⟩, d => if k = 1 then (if isUnd ⟨k, n, t, s, l⟩ = true ∨ H ⟨k, n, t, s, l⟩ = true then [] else [cap1 ⟨k, n, t, s, l⟩ d]) else if k = 0 then nms H A l 0 (A l) d else []
def nms (H : Syntax → Bool) (A : List Syntax → Int) : List Syntax → Int → Int → Int → List Capture
  | [], _, _, _ => []
  | x :: r, i, a, d => (if i = a then [] else nm H A x (if i + 1 = a then d + 1 else d)) ++ nms H A r (i + 1) a d
end
theorem nm_eq (H : Syntax → Bool) (A : List Syntax → Int) (p : Syntax) (d : Int) : nm H A p d = if p.kind = 1 then (if isUnd p = true ∨ H p = true then [] else [cap1 p d]) else if p.kind = 0 then nms H A p.items 0 (A p.items) d else [] := by cases p; simp only [nm]
def upC (x : Capture) : Capture := ⟨x.name, x.depth + 1, x.form, x.each⟩
def rp (V : List Capture) (R : List (List Capture)) : List Capture := (List.range V.length).map fun i => ⟨(V.getD i default).name, (V.getD i default).depth, (V.getD i default).form, (V.getD i default).each ++ R.map fun c => c.getD i default⟩
theorem rp_len (V : List Capture) (R : List (List Capture)) : (rp V R).length = V.length := by simp [rp]
def mtr (g : Syntax → Option (List Capture)) : List Syntax → Option (List (List Capture))
  | [] => some []
  | f :: r => match g f with
    | none => none
    | some c => match mtr g r with
      | none => none
      | some R => some (c :: R)
def many (a : Int) (n m : Nat) : Int := if 0 ≤ a then (m : Int) - ((n : Int) - 2) else 0
def fitM (a : Int) (l : List Syntax) (f : Syntax) : Bool := decide (f.kind = 0) && decide (0 ≤ many a l.length f.items.length) && (decide (0 ≤ a) || decide (f.items.length = l.length))
mutual
/-- a match: what is captured -/
def mt (M : Syntax → Syntax → Bool) (H : Syntax → Bool) (A : List Syntax → Int) : Syntax → Syntax → Option (List Capture)
  | ⟨k, n, t, s, l⟩, f => if k = 1 then (if isUnd ⟨k, n, t, s, l⟩ = true then some [] else if H ⟨k, n, t, s, l⟩ = true then (if f.kind = 1 ∧ M ⟨k, n, t, s, l⟩ f = true then some [] else none) else some [capF ⟨k, n, t, s, l⟩ f])
    else if k = 0 then (if fitM (A l) l f = true then mts M H A l 0 (A l) (many (A l) l.length f.items.length).toNat f.items else none)
    else if f.kind = k ∧ f.number = n ∧ f.text = t then some [] else none
def mts (M : Syntax → Syntax → Bool) (H : Syntax → Bool) (A : List Syntax → Int) : List Syntax → Int → Int → Nat → List Syntax → Option (List Capture)
  | [], _, _, _, _ => some []
  | x :: r, i, a, m, fs => if i = a then mts M H A r (i + 1) a m fs
    else if i + 1 = a then (match mtr (mt M H A x) (fs.take m) with
      | none => none
      | some R => match mts M H A r (i + 1) a m (fs.drop m) with
        | none => none
        | some c => some (rp (nm H A x 1) R ++ c))
    else match mt M H A x (fs.getD 0 default) with
      | none => none
      | some c => match mts M H A r (i + 1) a m (fs.drop 1) with
        | none => none
        | some d => some (c ++ d)
end
theorem mt_eq (M : Syntax → Syntax → Bool) (H : Syntax → Bool) (A : List Syntax → Int) (p f : Syntax) : mt M H A p f = if p.kind = 1 then (if isUnd p = true then some [] else if H p = true then (if f.kind = 1 ∧ M p f = true then some [] else none) else some [capF p f])
    else if p.kind = 0 then (if fitM (A p.items) p.items f = true then mts M H A p.items 0 (A p.items) (many (A p.items) p.items.length f.items.length).toNat f.items else none)
    else if f.kind = p.kind ∧ f.number = p.number ∧ f.text = p.text then some [] else none := by cases p; simp only [mt]
theorem nms_dep (H : Syntax → Bool) (A : List Syntax → Int) : ∀ (l : List Syntax), (∀ x ∈ l, ∀ d, nm H A x (d + 1) = (nm H A x d).map upC) → ∀ i a d, nms H A l i a (d + 1) = (nms H A l i a d).map upC
  | [], _, i, a, d => by simp [nms]
  | x :: r, h, i, a, d => by
    simp only [nms, List.map_append, nms_dep H A r (fun y hy => h y (List.mem_cons_of_mem _ hy))]
    congr 1
    split
    · rfl
    · split
      · exact h x List.mem_cons_self (d + 1)
      · exact h x List.mem_cons_self d
theorem nm_dep (H : Syntax → Bool) (A : List Syntax → Int) : ∀ (p : Syntax) (d : Int), nm H A p (d + 1) = (nm H A p d).map upC := by
  intro p
  refine Syntax.ind (P := fun p => ∀ d, nm H A p (d + 1) = (nm H A p d).map upC) (fun p ih d => ?_) p
  rw [nm_eq, nm_eq]
  split
  · split
    · rfl
    · rfl
  · split
    · exact nms_dep H A p.items ih 0 _ d
    · rfl
theorem mts_len {M : Syntax → Syntax → Bool} {H : Syntax → Bool} {A : List Syntax → Int} : ∀ (l : List Syntax), (∀ x ∈ l, ∀ f c, mt M H A x f = some c → c.length = (nm H A x 0).length) → ∀ i a m fs c, mts M H A l i a m fs = some c → c.length = (nms H A l i a 0).length
  | [], _, i, a, m, fs, c, e => by simp only [mts, Option.some.injEq] at e; subst e; simp [nms]
  | x :: r, h, i, a, m, fs, c, e => by
    have ih := mts_len r (fun y hy => h y (List.mem_cons_of_mem _ hy)) (i + 1) a m
    simp only [mts] at e
    simp only [nms]
    split at e
    · rename_i hi; rw [if_pos hi]; simpa using ih _ _ e
    · rename_i hi
      rw [if_neg hi]
      split at e
      · rename_i hi2
        rw [if_pos hi2]
        split at e
        · cases e
        · split at e
          · cases e
          · rename_i c' hc
            simp only [Option.some.injEq] at e; subst e
            rw [List.length_append, List.length_append, rp_len, ih _ _ hc]; rfl
      · rename_i hi2
        rw [if_neg hi2]
        split at e
        · cases e
        · rename_i c1 h1
          split at e
          · cases e
          · rename_i c' hc
            simp only [Option.some.injEq] at e; subst e
            rw [List.length_append, List.length_append, h x List.mem_cons_self _ _ h1, ih _ _ hc]
theorem mt_len {M : Syntax → Syntax → Bool} {H : Syntax → Bool} {A : List Syntax → Int} : ∀ (p f : Syntax) (c : List Capture), mt M H A p f = some c → c.length = (nm H A p 0).length := by
  intro p
  refine Syntax.ind (P := fun p => ∀ f c, mt M H A p f = some c → c.length = (nm H A p 0).length) (fun p ih f c e => ?_) p
  rw [mt_eq] at e
  rw [nm_eq]
  split at e
  · rename_i hk
    rw [if_pos hk]
    split at e
    · rename_i hu; simp only [Option.some.injEq] at e; subst e; rw [if_pos (.inl hu)]
    · rename_i hu
      split at e
      · rename_i hh
        split at e
        · simp only [Option.some.injEq] at e; subst e; rw [if_pos (.inr hh)]
        · cases e
      · rename_i hh
        simp only [Option.some.injEq] at e; subst e
        rw [if_neg (by simp [hu, hh])]; rfl
  · rename_i hk
    rw [if_neg hk]
    split at e
    · rename_i h0
      rw [if_pos h0]
      split at e
      · exact mts_len p.items ih _ _ _ _ _ e
      · cases e
    · rename_i h0
      rw [if_neg h0]
      split at e
      · simp only [Option.some.injEq] at e; subst e; rfl
      · cases e
theorem nm_len1 (H : Syntax → Bool) (A : List Syntax → Int) (p : Syntax) : (nm H A p 1).length = (nm H A p 0).length := by
  have := nm_dep H A p 0
  rw [show (0 : Int) + 1 = 1 from rfl] at this
  rw [this, List.length_map]
def aS (l : List Syntax) : Int := if okS l = true then atS l else -1
theorem wlk_nm {Ls : List Syntax} : ∀ (l : List Syntax), (∀ x ∈ l, ∀ d o r, vrS Ls x d o = some r → r = o ++ nm (hasI Ls) aS x d) → ∀ i a d o r, wlk (vrS Ls) l i a d o = some r → r = o ++ nms (hasI Ls) aS l i a d
  | [], _, i, a, d, o, r, e => by simp only [wlk, Option.some.injEq] at e; subst e; simp [nms]
  | x :: l, h, i, a, d, o, r, e => by
    have ih := wlk_nm l fun y hy => h y (List.mem_cons_of_mem _ hy)
    simp only [wlk] at e
    simp only [nms]
    split at e
    · rename_i hi; rw [if_pos hi, ih _ _ _ _ _ e]; rfl
    · rename_i hi
      rw [if_neg hi]
      split at e
      · cases e
      · rename_i o1 h1
        rw [ih _ _ _ _ _ e, h x List.mem_cons_self _ _ _ h1, List.append_assoc]
theorem vrS_nm {Ls : List Syntax} : ∀ (p : Syntax), okY p = true → ∀ d o r, vrS Ls p d o = some r → r = o ++ nm (hasI Ls) aS p d := by
  refine Syntax.ind fun p ih h d o r e => ?_
  rw [vrS_eq] at e
  rw [nm_eq]
  split at e
  · rename_i hk
    rw [if_pos hk]
    split at e
    · rename_i hu; simp only [Option.some.injEq] at e; subst e; rw [if_pos hu]; simp
    · rename_i hu
      rw [if_neg hu]
      split at e
      · cases e
      · simp only [Option.some.injEq] at e; exact e.symm
  · rename_i hk
    rw [if_neg hk]
    split at e
    · rename_i hs
      by_cases h0 : p.kind = 0
      · rw [if_pos h0]
        have ha : aS p.items = atS p.items := if_pos hs
        rw [ha]
        exact wlk_nm p.items (fun x hx => ih x hx (okY_item h x hx)) _ _ _ _ _ e
      · rw [if_neg h0]
        rw [okY_kind h hk h0] at e
        simp only [wlk, Option.some.injEq] at e; subst e; simp
    · cases e
theorem fnd_iff (L : List Capture) (q : Syntax) : 0 ≤ fnd L q ↔ isDots q = false ∧ L.any (capFor q) = true := by
  have h1 : fndN L q < L.length ↔ L.any (capFor q) = true := by
    unfold fndN
    rw [List.findIdx_lt_length, List.any_eq_true]
  unfold fnd
  constructor
  · intro h
    split at h
    · rename_i hc; exact ⟨hc.1, h1.1 hc.2⟩
    · omega
  · rintro ⟨h2, h3⟩
    rw [if_pos ⟨h2, h1.2 h3⟩]; omega
theorem wlk_mono {Ls : List Syntax} : ∀ (l : List Syntax), (∀ x ∈ l, ∀ d o r, vrS Ls x d o = some r → ∀ d' o', d' ≤ d → (∀ q, 0 ≤ fnd o' q → 0 ≤ fnd o q) → ∃ r', vrS Ls x d' o' = some r' ∧ ∀ q, 0 ≤ fnd r' q → 0 ≤ fnd r q) →
    ∀ i a d o r, wlk (vrS Ls) l i a d o = some r → ∀ d' o', d' ≤ d → (∀ q, 0 ≤ fnd o' q → 0 ≤ fnd o q) → ∃ r', wlk (vrS Ls) l i a d' o' = some r' ∧ ∀ q, 0 ≤ fnd r' q → 0 ≤ fnd r q
  | [], _, i, a, d, o, r, e, d', o', hd, ho => by simp only [wlk, Option.some.injEq] at e ⊢; subst e; exact ⟨o', rfl, ho⟩
  | x :: l, h, i, a, d, o, r, e, d', o', hd, ho => by
    have ih := wlk_mono l fun y hy => h y (List.mem_cons_of_mem _ hy)
    simp only [wlk] at e ⊢
    split at e
    · rename_i hi; rw [if_pos hi]; exact ih _ _ _ _ _ e _ _ hd ho
    · rename_i hi
      rw [if_neg hi]
      split at e
      · cases e
      · rename_i o1 h1
        obtain ⟨r1, e1, e2⟩ := h x List.mem_cons_self _ _ _ h1 (if i + 1 = a then d' + 1 else d') o' (by split <;> omega) ho
        rw [e1]
        exact ih _ _ _ _ _ e _ _ hd e2
theorem vrS_mono {Ls : List Syntax} : ∀ (p : Syntax) (d : Int) (o r : List Capture), vrS Ls p d o = some r → ∀ d' o', d' ≤ d → (∀ q, 0 ≤ fnd o' q → 0 ≤ fnd o q) → ∃ r', vrS Ls p d' o' = some r' ∧ ∀ q, 0 ≤ fnd r' q → 0 ≤ fnd r q := by
  refine Syntax.ind fun p ih d o r e d' o' hd ho => ?_
  rw [vrS_eq] at e ⊢
  split at e
  · rename_i hk
    rw [if_pos hk]
    split at e
    · rename_i hu; simp only [Option.some.injEq] at e; subst e; rw [if_pos hu]; exact ⟨o', rfl, ho⟩
    · rename_i hu
      rw [if_neg hu]
      split at e
      · cases e
      · rename_i hb
        simp only [Option.some.injEq] at e; subst e
        rw [if_neg (fun hc => hb (hc.imp id (Or.imp (ho p) (fun h => by omega))))]
        refine ⟨_, rfl, fun q hq => ?_⟩
        rw [fnd_iff] at hq ⊢
        refine ⟨hq.1, ?_⟩
        rw [List.any_append, Bool.or_eq_true] at hq ⊢
        rcases hq.2 with h1 | h1
        · exact .inl ((fnd_iff o q).1 (ho q ((fnd_iff o' q).2 ⟨hq.1, h1⟩))).2
        · exact .inr h1
  · rename_i hk
    rw [if_neg hk]
    split at e
    · rename_i hs
      rw [if_pos hs]
      exact wlk_mono p.items ih _ _ _ _ _ e _ _ hd ho
    · cases e
theorem wlk_item {f : Syntax → Int → List Capture → Option (List Capture)} : ∀ (l : List Syntax) (i a d : Int) (o r : List Capture), wlk f l i a d o = some r → ∀ k : Nat, k < l.length → i + k ≠ a →
    ∃ o' r', f (l.getD k default) (if i + k + 1 = a then d + 1 else d) o' = some r'
  | [], i, a, d, o, r, e, k, hk, _ => by simp at hk
  | x :: l, i, a, d, o, r, e, k, hk, hne => by
    simp only [wlk] at e
    cases k with
    | zero =>
      split at e
      · rename_i hi; exact absurd hi (by simpa using hne)
      · split at e
        · cases e
        · rename_i o1 h1
          exact ⟨o, o1, by simpa using h1⟩
    | succ k =>
      have hk' : k < l.length := by simpa using hk
      have e1 : i + ((k + 1 : Nat) : Int) = i + 1 + (k : Int) := by omega
      have : ∃ o2 r2, wlk f l (i + 1) a d o2 = some r2 := by
        split at e
        · exact ⟨_, _, e⟩
        · split at e
          · cases e
          · exact ⟨_, _, e⟩
      obtain ⟨o2, r2, e2⟩ := this
      rw [e1] at hne ⊢
      simpa using wlk_item l (i + 1) a d o2 r2 e2 k hk' hne
def good (Ls : List Syntax) (p : Syntax) : Prop := okY p = true ∧ ∃ d o r, 0 ≤ d ∧ vrS Ls p d o = some r
theorem good_okS {Ls : List Syntax} {p : Syntax} (h : good Ls p) (h0 : p.kind = 0) : okS p.items = true := by
  obtain ⟨_, d, o, r, _, e⟩ := h
  rw [vrS_eq, if_neg (by omega)] at e
  cases hs : okS p.items with
  | true => rfl
  | false => rw [hs, if_neg (by simp)] at e; cases e
theorem good_item {Ls : List Syntax} {p : Syntax} (h : good Ls p) (h0 : p.kind = 0) {k : Nat} (hk : k < p.items.length) (hne : (k : Int) ≠ aS p.items) : good Ls (p.items.getD k default) := by
  have hs := good_okS h h0
  obtain ⟨hy, d, o, r, hd, e⟩ := h
  refine ⟨okY_item hy _ (getD_mem' hk), ?_⟩
  rw [vrS_eq, if_neg (by omega), if_pos hs] at e
  have ha : aS p.items = atS p.items := if_pos hs
  rw [ha] at hne
  obtain ⟨o', r', e'⟩ := wlk_item p.items 0 _ d o r e k hk (by omega)
  exact ⟨_, o', r', by split <;> omega, e'⟩
theorem good_rep {Ls : List Syntax} {p : Syntax} (h : good Ls p) (h0 : p.kind = 0) {k : Nat} (hk : k < p.items.length) (ha : (k : Int) + 1 = aS p.items) :
    vrS Ls (p.items.getD k default) 0 [] = some (nm (hasI Ls) aS (p.items.getD k default) 0) ∧ vrS Ls (p.items.getD k default) 1 [] = some (nm (hasI Ls) aS (p.items.getD k default) 1) := by
  have hs := good_okS h h0
  obtain ⟨hy, d, o, r, hd, e⟩ := h
  have hy' := okY_item hy _ (getD_mem' hk)
  rw [vrS_eq, if_neg (by omega), if_pos hs] at e
  have ha' : aS p.items = atS p.items := if_pos hs
  rw [ha'] at ha
  obtain ⟨o', r', e'⟩ := wlk_item p.items 0 _ d o r e k hk (by omega)
  rw [if_pos (by omega)] at e'
  have hn : ∀ q, 0 ≤ fnd [] q → 0 ≤ fnd o' q := fun q hq => by rw [fnd_iff] at hq; simp at hq
  obtain ⟨r0, e0, _⟩ := vrS_mono _ _ _ _ e' 0 [] (by omega) hn
  obtain ⟨r1, e1, _⟩ := vrS_mono _ _ _ _ e' 1 [] (by omega) hn
  refine ⟨?_, ?_⟩
  · rw [e0]; exact congrArg some (by simpa using vrS_nm _ hy' _ _ _ e0)
  · rw [e1]; exact congrArg some (by simpa using vrS_nm _ hy' _ _ _ e1)
theorem mtr_congr {g g' : Syntax → Option (List Capture)} (h : ∀ f, g f = g' f) (L : List Syntax) : mtr g L = mtr g' L := by rw [funext h]
theorem mts_same {M : Syntax → Syntax → Bool} {H H' : Syntax → Bool} {A A' : List Syntax → Int} {a : Int} : ∀ (l : List Syntax) (i : Int), (∀ k : Nat, k < l.length → i + k ≠ a → (∀ f, mt M H A (l.getD k default) f = mt M H' A' (l.getD k default) f) ∧
      nm H A (l.getD k default) 1 = nm H' A' (l.getD k default) 1) → ∀ m fs, mts M H A l i a m fs = mts M H' A' l i a m fs
  | [], i, _, m, fs => by simp only [mts]
  | x :: r, i, h, m, fs => by
    have ih := mts_same (a := a) r (i + 1) (fun k hk hne => by
      have := h (k + 1) (by simpa using hk) (by omega)
      simpa using this)
    simp only [mts, ih]
    by_cases hi : i = a
    · rw [if_pos hi, if_pos hi]
    · obtain ⟨h1, h2⟩ := h 0 (by simp) (by simpa using hi)
      simp only [List.getD_cons_zero] at h1 h2
      rw [if_neg hi, if_neg hi, mtr_congr h1, h2, h1]
theorem nms_same {H H' : Syntax → Bool} {A A' : List Syntax → Int} {a : Int} : ∀ (l : List Syntax) (i : Int), (∀ k : Nat, k < l.length → i + k ≠ a → ∀ d, nm H A (l.getD k default) d = nm H' A' (l.getD k default) d) → ∀ d, nms H A l i a d = nms H' A' l i a d
  | [], i, _, d => by simp only [nms]
  | x :: r, i, h, d => by
    have ih := nms_same (a := a) r (i + 1) (fun k hk hne => by
      have := h (k + 1) (by simpa using hk) (by omega)
      simpa using this)
    simp only [nms, ih]
    by_cases hi : i = a
    · rw [if_pos hi, if_pos hi]
    · have h1 := h 0 (by simp) (by simpa using hi)
      simp only [List.getD_cons_zero] at h1
      rw [if_neg hi, if_neg hi, h1]
theorem mt_same {M : Syntax → Syntax → Bool} {Ls : List Syntax} (hL : ∀ x ∈ Ls, litP x = true) : ∀ p : Syntax, good Ls p → (∀ f, mt M (hasI Ls) aS p f = mt M (hasJ Ls) atI p f) ∧ ∀ d, nm (hasI Ls) aS p d = nm (hasJ Ls) atI p d := by
  refine Syntax.ind fun p ih hg => ?_
  by_cases hk : p.kind = 1
  · have hh := hasI_hasJ hL hk
    refine ⟨fun f => ?_, fun d => ?_⟩
    · rw [mt_eq, mt_eq, if_pos hk, if_pos hk, hh]
    · rw [nm_eq, nm_eq, if_pos hk, if_pos hk, hh]
  · by_cases h0 : p.kind = 0
    · have hs := good_okS hg h0
      have e1 : aS p.items = atI p.items := by rw [(atI_ok hs).1]; exact if_pos hs
      have hit : ∀ k : Nat, k < p.items.length → (0 : Int) + k ≠ atI p.items → (∀ f, mt M (hasI Ls) aS (p.items.getD k default) f = mt M (hasJ Ls) atI (p.items.getD k default) f) ∧ ∀ d, nm (hasI Ls) aS (p.items.getD k default) d = nm (hasJ Ls) atI (p.items.getD k default) d :=
        fun k hk' hne => ih _ (getD_mem' hk') (good_item hg h0 hk' (by rw [e1]; omega))
      refine ⟨fun f => ?_, fun d => ?_⟩
      · rw [mt_eq, mt_eq, if_neg hk, if_neg hk, if_pos h0, if_pos h0, e1, mts_same p.items 0 fun k hk' hne => ⟨(hit k hk' hne).1, (hit k hk' hne).2 1⟩]
      · rw [nm_eq, nm_eq, if_neg hk, if_neg hk, if_pos h0, if_pos h0, e1, nms_same p.items 0 fun k hk' hne => (hit k hk' hne).2]
    · refine ⟨fun f => ?_, fun d => ?_⟩
      · rw [mt_eq, mt_eq, if_neg hk, if_neg hk, if_neg h0, if_neg h0]
      · rw [nm_eq, nm_eq, if_neg hk, if_neg hk, if_neg h0, if_neg h0]
theorem nms_size {H : Syntax → Bool} {A : List Syntax → Int} : ∀ (l : List Syntax), (∀ x ∈ l, ∀ d, (nm H A x d).length ≤ sizeY x) → ∀ i a d, (nms H A l i a d).length ≤ sumBy sizeY l
  | [], _, i, a, d => by simp [nms]
  | x :: r, h, i, a, d => by
    have ih := nms_size r (fun y hy => h y (List.mem_cons_of_mem _ hy)) (i + 1) a d
    simp only [nms, List.length_append, sumBy]
    split
    · simp only [List.length_nil]; omega
    · have := h x List.mem_cons_self (if i + 1 = a then d + 1 else d); omega
theorem nm_size (H : Syntax → Bool) (A : List Syntax → Int) : ∀ (p : Syntax) (d : Int), (nm H A p d).length ≤ sizeY p := by
  intro p
  refine Syntax.ind (P := fun p => ∀ d, (nm H A p d).length ≤ sizeY p) (fun p ih d => ?_) p
  have hz := sizeY_eq p
  rw [nm_eq]
  split
  · split
    · simp
    · simp only [List.length_singleton]; omega
  · split
    · have := nms_size p.items ih 0 (A p.items) d; omega
    · simp
def rws (g : Syntax → Option (List Capture)) (fs : List Syntax) (k : Nat) : Nat → List (List Capture) × Bool
  | 0 => ([], true)
  | j + 1 => if (rws g fs k j).2 = true then (match g (fs.getD (k + j) default) with | some c => ((rws g fs k j).1 ++ [c], true) | none => ((rws g fs k j).1, false)) else rws g fs k j
theorem rws_len {g : Syntax → Option (List Capture)} {fs : List Syntax} {k : Nat} : ∀ j, (rws g fs k j).2 = true → (rws g fs k j).1.length = j
  | 0, _ => rfl
  | j + 1, h => by
    simp only [rws] at h ⊢
    split at h
    · rename_i hj
      rw [if_pos hj]
      split at h
      · rename_i c hc; rw [List.length_append, rws_len j hj, List.length_singleton]
      · cases h
    · rename_i hj; exact absurd h hj
theorem rws_stop {g : Syntax → Option (List Capture)} {fs : List Syntax} {k j : Nat} (h : (rws g fs k j).2 = false) : ∀ n, rws g fs k (j + n) = rws g fs k j
  | 0 => rfl
  | n + 1 => by
    have ih := rws_stop h n
    rw [← Nat.add_assoc]
    simp only [rws, ih, h]
    simp
theorem rws_some {g : Syntax → Option (List Capture)} {fs : List Syntax} {k j : Nat} {c : List Capture} (h : (rws g fs k j).2 = true) (hc : g (fs.getD (k + j) default) = some c) : rws g fs k (j + 1) = ((rws g fs k j).1 ++ [c], true) := by
  simp only [rws]; rw [if_pos h, hc]
theorem rws_none {g : Syntax → Option (List Capture)} {fs : List Syntax} {k j : Nat} (h : (rws g fs k j).2 = true) (hc : g (fs.getD (k + j) default) = none) : rws g fs k (j + 1) = ((rws g fs k j).1, false) := by
  simp only [rws]; rw [if_pos h, hc]
theorem mtr_snoc (g : Syntax → Option (List Capture)) : ∀ (L : List Syntax) (x : Syntax), mtr g (L ++ [x]) = match mtr g L with | none => none | some R => match g x with | none => none | some c => some (R ++ [c])
  | [], x => by cases h : g x <;> simp [mtr, h]
  | y :: L, x => by
    simp only [List.cons_append, mtr, mtr_snoc g L x]
    cases g y with
    | none => rfl
    | some c =>
      cases mtr g L with
      | none => rfl
      | some R => cases g x <;> rfl
theorem rws_mtr {g : Syntax → Option (List Capture)} {fs : List Syntax} {k : Nat} : ∀ j, k + j ≤ fs.length → mtr g ((fs.drop k).take j) = if (rws g fs k j).2 = true then some (rws g fs k j).1 else none
  | 0, _ => by simp [mtr, rws]
  | j + 1, h => by
    have hj : j < (fs.drop k).length := by rw [List.length_drop]; omega
    have e : (fs.drop k).getD j default = fs.getD (k + j) default := by simp [List.getD_eq_getElem?_getD, List.getElem?_drop]
    rw [take_get hj, mtr_snoc, rws_mtr j (by omega), e]
    by_cases hr : (rws g fs k j).2 = true
    · rw [if_pos hr]
      cases hg : g (fs.getD (k + j) default) with
      | none => rw [rws_none hr hg]; rfl
      | some c => rw [rws_some hr hg]; rfl
    · have hr' : (rws g fs k j).2 = false := by simpa using hr
      rw [if_neg hr, rws_stop hr' 1, if_neg hr]
def flM (x : Syntax) (L : List Capture) : List Capture := if x.kind = 0 then [] else L
def sA (g : Syntax → Syntax → Option (List Capture)) (N : Syntax → List Capture) (l fs : List Syntax) (a : Int) (m : Nat) (o : List Capture) : Nat → List Capture × Nat × Bool
  | 0 => (o, 0, true)
  | i + 1 => if (sA g N l fs a m o i).2.2 = true then (if (i : Int) = a then sA g N l fs a m o i
      else if (i : Int) + 1 = a then ((sA g N l fs a m o i).1 ++ rp (N (l.getD i default)) (rws (g (l.getD i default)) fs (sA g N l fs a m o i).2.1 m).1,
        (sA g N l fs a m o i).2.1 + (if (rws (g (l.getD i default)) fs (sA g N l fs a m o i).2.1 m).2 = true then m else (rws (g (l.getD i default)) fs (sA g N l fs a m o i).2.1 m).1.length + 1),
        (rws (g (l.getD i default)) fs (sA g N l fs a m o i).2.1 m).2)
      else match g (l.getD i default) (fs.getD (sA g N l fs a m o i).2.1 default) with
        | some c => ((sA g N l fs a m o i).1 ++ c, (sA g N l fs a m o i).2.1 + 1, true)
        | none => (flM (l.getD i default) (sA g N l fs a m o i).1, (sA g N l fs a m o i).2.1 + 1, false))
    else sA g N l fs a m o i
section
variable {g : Syntax → Syntax → Option (List Capture)} {N : Syntax → List Capture} {l fs : List Syntax} {a : Int} {m : Nat} {o : List Capture}
def oA (g : Syntax → Syntax → Option (List Capture)) (N : Syntax → List Capture) (l fs : List Syntax) (a : Int) (m : Nat) (o : List Capture) (i : Nat) : List Capture := (sA g N l fs a m o i).1
def kA (g : Syntax → Syntax → Option (List Capture)) (N : Syntax → List Capture) (l fs : List Syntax) (a : Int) (m : Nat) (o : List Capture) (i : Nat) : Nat := (sA g N l fs a m o i).2.1
def bA (g : Syntax → Syntax → Option (List Capture)) (N : Syntax → List Capture) (l fs : List Syntax) (a : Int) (m : Nat) (o : List Capture) (i : Nat) : Bool := (sA g N l fs a m o i).2.2
theorem sA_zero : oA g N l fs a m o 0 = o ∧ kA g N l fs a m o 0 = 0 ∧ bA g N l fs a m o 0 = true := ⟨rfl, rfl, rfl⟩
theorem sA_skip {i : Nat} (h : bA g N l fs a m o i = true) (e : (i : Int) = a) : oA g N l fs a m o (i + 1) = oA g N l fs a m o i ∧ kA g N l fs a m o (i + 1) = kA g N l fs a m o i ∧ bA g N l fs a m o (i + 1) = true := by
  have e1 : sA g N l fs a m o (i + 1) = sA g N l fs a m o i := by
    have h' : (sA g N l fs a m o i).2.2 = true := h
    simp only [sA]; rw [if_pos h', if_pos e]
  unfold oA kA bA at *; rw [e1]; exact ⟨rfl, rfl, h⟩
theorem sA_one {i : Nat} (h : bA g N l fs a m o i = true) (e : ¬ (i : Int) = a) (e2 : ¬ (i : Int) + 1 = a) {c : Option (List Capture)} (hc : g (l.getD i default) (fs.getD (kA g N l fs a m o i) default) = c) :
    oA g N l fs a m o (i + 1) = c.elim (flM (l.getD i default) (oA g N l fs a m o i)) (fun c => oA g N l fs a m o i ++ c) ∧ kA g N l fs a m o (i + 1) = kA g N l fs a m o i + 1 ∧ bA g N l fs a m o (i + 1) = c.isSome := by
  have h' : (sA g N l fs a m o i).2.2 = true := h
  have hc' : g (l.getD i default) (fs.getD (sA g N l fs a m o i).2.1 default) = c := hc
  cases c with
  | some c =>
    have e1 : sA g N l fs a m o (i + 1) = ((sA g N l fs a m o i).1 ++ c, (sA g N l fs a m o i).2.1 + 1, true) := by
      simp only [sA]; rw [if_pos h', if_neg e, if_neg e2, hc']
    unfold oA kA bA; rw [e1]; exact ⟨rfl, rfl, rfl⟩
  | none =>
    have e1 : sA g N l fs a m o (i + 1) = (flM (l.getD i default) (sA g N l fs a m o i).1, (sA g N l fs a m o i).2.1 + 1, false) := by
      simp only [sA]; rw [if_pos h', if_neg e, if_neg e2, hc']
    unfold oA kA bA; rw [e1]; exact ⟨rfl, rfl, rfl⟩
theorem sA_rep {i : Nat} (h : bA g N l fs a m o i = true) (e2 : (i : Int) + 1 = a) {k : Nat} (hk : kA g N l fs a m o i = k) {R : List (List Capture) × Bool} (hR : rws (g (l.getD i default)) fs k m = R) :
    oA g N l fs a m o (i + 1) = oA g N l fs a m o i ++ rp (N (l.getD i default)) R.1 ∧ kA g N l fs a m o (i + 1) = k + (if R.2 = true then m else R.1.length + 1) ∧ bA g N l fs a m o (i + 1) = R.2 := by
  subst hk; subst hR
  have e1 : sA g N l fs a m o (i + 1) = ((sA g N l fs a m o i).1 ++ rp (N (l.getD i default)) (rws (g (l.getD i default)) fs (sA g N l fs a m o i).2.1 m).1,
        (sA g N l fs a m o i).2.1 + (if (rws (g (l.getD i default)) fs (sA g N l fs a m o i).2.1 m).2 = true then m else (rws (g (l.getD i default)) fs (sA g N l fs a m o i).2.1 m).1.length + 1),
        (rws (g (l.getD i default)) fs (sA g N l fs a m o i).2.1 m).2) := by
    have h' : (sA g N l fs a m o i).2.2 = true := h
    simp only [sA]; rw [if_pos h', if_neg (by omega), if_pos e2]
  unfold oA kA bA; rw [e1]; exact ⟨rfl, rfl, rfl⟩
theorem sA_stop {i : Nat} (h : bA g N l fs a m o i = false) : ∀ n, sA g N l fs a m o (i + n) = sA g N l fs a m o i
  | 0 => rfl
  | n + 1 => by
    have ih := sA_stop h n
    rw [← Nat.add_assoc]
    have h' : (sA g N l fs a m o i).2.2 = false := h
    simp only [sA, ih, h']
    simp
theorem sA_end {i n : Nat} (h : bA g N l fs a m o i = false) (hn : i ≤ n) : oA g N l fs a m o n = oA g N l fs a m o i ∧ kA g N l fs a m o n = kA g N l fs a m o i ∧ bA g N l fs a m o n = false := by
  have := sA_stop h (n - i)
  rw [show i + (n - i) = n by omega] at this
  unfold oA kA bA at *; rw [this]; exact ⟨rfl, rfl, h⟩
end
def kF (a : Int) (m i : Nat) : Int := if a < 0 ∨ (i : Int) < a then i else if (i : Int) = a then a - 1 + m else (i : Int) - 2 + m
section
variable {M : Syntax → Syntax → Bool} {H : Syntax → Bool} {A : List Syntax → Int} {l fs : List Syntax} {a : Int} {m : Nat} {o : List Capture}
theorem sA_main (ha : 0 ≤ a → 1 ≤ a ∧ a < l.length ∧ (fs.length : Int) = l.length - 2 + m) (hb : a < 0 → fs.length = l.length) : ∀ i, i ≤ l.length → (bA (mt M H A) (fun x => nm H A x 1) l fs a m o i = true →
      (kA (mt M H A) (fun x => nm H A x 1) l fs a m o i : Int) = kF a m i ∧ ∃ c, oA (mt M H A) (fun x => nm H A x 1) l fs a m o i = o ++ c ∧ c.length ≤ sumBy sizeY (l.take i) ∧
        mts M H A l 0 a m fs = (mts M H A (l.drop i) i a m (fs.drop (kA (mt M H A) (fun x => nm H A x 1) l fs a m o i))).map (c ++ ·)) ∧
    (bA (mt M H A) (fun x => nm H A x 1) l fs a m o i = false → mts M H A l 0 a m fs = none)
  | 0, _ => ⟨fun _ => ⟨by simp [kF, kA, sA]; omega, [], by simp [oA, sA], by simp, by simp [kA, sA]⟩, fun h => by cases h⟩
  | i + 1, hi => by
    obtain ⟨ih1, ih2⟩ := sA_main ha hb i (by omega)
    have hil : i < l.length := by omega
    have hdrop := drop_get hil
    have hsum : sumBy sizeY (l.take (i + 1)) = sumBy sizeY (l.take i) + sizeY (l.getD i default) := by rw [take_get hil, sumBy_append]; rfl
    cases hbi : bA (mt M H A) (fun x => nm H A x 1) l fs a m o i with
    | false =>
      have e := sA_end hbi (Nat.le_succ i)
      refine ⟨fun h => ?_, fun _ => ih2 hbi⟩
      rw [e.2.2] at h; cases h
    | true =>
      obtain ⟨hk, c, hc1, hc2, hc3⟩ := ih1 hbi
      by_cases e : (i : Int) = a
      · obtain ⟨s1, s2, s3⟩ := sA_skip hbi e
        refine ⟨fun _ => ⟨?_, c, ?_, ?_, ?_⟩, fun h => by rw [s3] at h; cases h⟩
        · rw [s2, hk]; unfold kF; rw [if_neg (by omega), if_pos e, if_neg (by omega), if_neg (by omega)]; omega
        · rw [s1, hc1]
        · omega
        · rw [hc3, s2, hdrop]
          simp only [mts, if_pos e]
          congr 1
      · by_cases e2 : (i : Int) + 1 = a
        · obtain ⟨s1, s2, s3⟩ := sA_rep hbi e2 rfl rfl
          have hkl : kA (mt M H A) (fun x => nm H A x 1) l fs a m o i + m ≤ fs.length := by
            have := ha (by omega)
            unfold kF at hk; rw [if_pos (by omega)] at hk; omega
          have hr := rws_mtr (g := mt M H A (l.getD i default)) m hkl
          have hstep : mts M H A (l.drop i) i a m (fs.drop (kA (mt M H A) (fun x => nm H A x 1) l fs a m o i)) = match mtr (mt M H A (l.getD i default)) ((fs.drop (kA (mt M H A) (fun x => nm H A x 1) l fs a m o i)).take m) with
              | none => none
              | some R => match mts M H A (l.drop (i + 1)) (i + 1) a m (fs.drop (kA (mt M H A) (fun x => nm H A x 1) l fs a m o i + m)) with
                | none => none
                | some c => some (rp (nm H A (l.getD i default) 1) R ++ c) := by
            rw [hdrop]
            simp only [mts, if_neg e, if_pos e2, List.drop_drop]
          refine ⟨fun h => ?_, fun h => ?_⟩
          · rw [s3] at h
            rw [if_pos h] at hr s2
            refine ⟨?_, c ++ rp (nm H A (l.getD i default) 1) _, by rw [s1, hc1, List.append_assoc], ?_, ?_⟩
            · rw [s2]; unfold kF at hk ⊢; rw [if_pos (by omega)] at hk; rw [if_neg (by omega), if_pos (by omega)]; omega
            · rw [List.length_append, rp_len, hsum]
              have := nm_size H A (l.getD i default) 1
              omega
            · rw [hc3, hstep, hr, s2]
              simp only [Int.natCast_add, Int.natCast_one]
              cases mts M H A (l.drop (i + 1)) ((i : Int) + 1) a m (fs.drop (kA (mt M H A) (fun x => nm H A x 1) l fs a m o i + m)) <;> simp
          · rw [s3] at h
            rw [if_neg (by rw [h]; simp)] at hr
            rw [hc3, hstep, hr]; rfl
        · have hstep : mts M H A (l.drop i) i a m (fs.drop (kA (mt M H A) (fun x => nm H A x 1) l fs a m o i)) = match mt M H A (l.getD i default) (fs.getD (kA (mt M H A) (fun x => nm H A x 1) l fs a m o i) default) with
              | none => none
              | some c => match mts M H A (l.drop (i + 1)) (i + 1) a m (fs.drop (kA (mt M H A) (fun x => nm H A x 1) l fs a m o i + 1)) with
                | none => none
                | some d => some (c ++ d) := by
            rw [hdrop]
            have eg : (fs.drop (kA (mt M H A) (fun x => nm H A x 1) l fs a m o i)).getD 0 default = fs.getD (kA (mt M H A) (fun x => nm H A x 1) l fs a m o i) default := by simp [List.getD_eq_getElem?_getD, List.getElem?_drop]
            simp only [mts, if_neg e, if_neg e2, List.drop_drop, eg]
          cases hg : mt M H A (l.getD i default) (fs.getD (kA (mt M H A) (fun x => nm H A x 1) l fs a m o i) default) with
          | none =>
            obtain ⟨s1, s2, s3⟩ := sA_one hbi e e2 hg
            refine ⟨fun h => ?_, fun h => ?_⟩
            · rw [s3] at h; cases h
            · rw [hc3, hstep, hg]; rfl
          | some c' =>
            obtain ⟨s1, s2, s3⟩ := sA_one hbi e e2 hg
            refine ⟨fun _ => ⟨?_, c ++ c', by rw [s1]; simp only [Option.elim]; rw [hc1, List.append_assoc], ?_, ?_⟩, fun h => by rw [s3] at h; cases h⟩
            · rw [s2]; unfold kF at hk ⊢
              by_cases ea : a < 0 ∨ (i : Int) < a
              · rw [if_pos ea] at hk; rw [if_pos (by omega)]; omega
              · rw [if_neg ea, if_neg e] at hk; rw [if_neg (by omega), if_neg (by omega)]; omega
            · rw [List.length_append, hsum, mt_len _ _ _ hg]
              have := nm_size H A (l.getD i default) 0
              omega
            · rw [hc3, hstep, hg, s2]
              simp only [Int.natCast_add, Int.natCast_one]
              cases mts M H A (l.drop (i + 1)) ((i : Int) + 1) a m (fs.drop (kA (mt M H A) (fun x => nm H A x 1) l fs a m o i + 1)) <;> simp
end
end Go.Proofs.YtpnaoendfpaodaaGreat
end
section
namespace Go.Proofs.YtpnaoendfpaodaaGreat
open Go Go.Proofs.YtpnaoendfpaodaaGreat.Ab
set_option linter.unusedVariables false
set_option linter.unusedSimpArgs false
abbrev gS (B : List Binding) (Ls : List Syntax) : Syntax → Syntax → Option (List Capture) := mt (mng B) (hasI Ls) aS
def nS (Ls : List Syntax) (x : Syntax) : List Capture := nm (hasI Ls) aS x 1
def eV (Ls : List Syntax) (x : Syntax) : List Capture := (vrS Ls x 0 []).getD []
def smO (p : Syntax) (o : List Capture) (r : Option (List Capture)) : List Capture := match r with | some c => o ++ c | none => flM p o
def mS (p f : Syntax) : Nat := (many (aS p.items) p.items.length f.items.length).toNat
def oS (B : List Binding) (Ls : List Syntax) (p f : Syntax) (o : List Capture) (i : Nat) : List Capture := oA (gS B Ls) (fun x => nm (hasI Ls) aS x 1) p.items f.items (aS p.items) (mS p f) o i
def kS (B : List Binding) (Ls : List Syntax) (p f : Syntax) (o : List Capture) (i : Nat) : Nat := kA (gS B Ls) (fun x => nm (hasI Ls) aS x 1) p.items f.items (aS p.items) (mS p f) o i
def bS (B : List Binding) (Ls : List Syntax) (p f : Syntax) (o : List Capture) (i : Nat) : Bool := bA (gS B Ls) (fun x => nm (hasI Ls) aS x 1) p.items f.items (aS p.items) (mS p f) o i
def rS (B : List Binding) (Ls : List Syntax) (p f : Syntax) (o : List Capture) (i t : Nat) : List (List Capture) := (rws (gS B Ls (p.items.getD i default)) f.items (kS B Ls p f o i) t).1
def qS (B : List Binding) (Ls : List Syntax) (p f : Syntax) (o : List Capture) (i t : Nat) : Bool := (rws (gS B Ls (p.items.getD i default)) f.items (kS B Ls p f o i) t).2
def fS (p f : Syntax) : Bool := fitM (aS p.items) p.items f
def upTo (V : List Capture) (i : Nat) : List Capture := (V.take i).map upC ++ V.drop i
abbrev capX (x : Capture) : List Cell := [cI x.name.kind, cI x.name.number, cS x.name.text, .any, .any, cI x.depth, cI x.form.kind, cI x.form.number, cS x.form.text, .any, .any, .any]
def rpTo (V : List Capture) (R : List (List Capture)) (c : List Capture) (u : Nat) : List Capture := (rp V (R ++ [c])).take u ++ (rp V R).drop u
theorem aS_at (l : List Syntax) : aS l = -1 ∨ ∃ a : Nat, aS l = a ∧ 1 ≤ a ∧ a < l.length := by
  unfold aS
  split
  · rename_i h
    rcases okA_at l l.length (Nat.le_refl _) h with h1 | ⟨m, h1, h2, h3, _⟩
    · exact .inl h1.1
    · exact .inr ⟨m, h3, h1, h2⟩
  · exact .inl rfl
theorem fS_eq (p f : Syntax) : fS p f = (decide (f.kind = 0) && decide (0 ≤ many (aS p.items) p.items.length f.items.length) && (decide (0 ≤ aS p.items) || decide (f.items.length = p.items.length))) := rfl
theorem fS_at {p f : Syntax} (h : fS p f = true) : f.kind = 0 ∧ (aS p.items = -1 ∧ f.items.length = p.items.length ∧ mS p f = 0 ∨ ∃ a : Nat, aS p.items = a ∧ 1 ≤ a ∧ a < p.items.length ∧ (f.items.length : Int) = p.items.length - 2 + mS p f) := by
  rw [fS_eq] at h
  simp only [Bool.and_eq_true, Bool.or_eq_true, decide_eq_true_eq] at h
  obtain ⟨⟨h1, h2⟩, h3⟩ := h
  refine ⟨h1, ?_⟩
  rcases aS_at p.items with ha | ⟨a, ha, ha1, ha2⟩
  · refine .inl ⟨ha, by rcases h3 with h3 | h3 <;> omega, ?_⟩
    unfold mS many; rw [ha, if_neg (by omega)]; rfl
  · refine .inr ⟨a, ha, ha1, ha2, ?_⟩
    have e : many (aS p.items) p.items.length f.items.length = (f.items.length : Int) - ((p.items.length : Int) - 2) := if_pos (by omega)
    rw [e] at h2
    unfold mS; rw [e]; omega
section
variable {B : List Binding} {Ls : List Syntax} {p f : Syntax} {o : List Capture}
theorem sM_zero : oS B Ls p f o 0 = o ∧ kS B Ls p f o 0 = 0 ∧ bS B Ls p f o 0 = true := sA_zero
theorem sM_skip {i : Nat} (h : bS B Ls p f o i = true) (e : (i : Int) = aS p.items) : oS B Ls p f o (i + 1) = oS B Ls p f o i ∧ kS B Ls p f o (i + 1) = kS B Ls p f o i ∧ bS B Ls p f o (i + 1) = true := sA_skip h e
theorem sM_one {i : Nat} (h : bS B Ls p f o i = true) (e : ¬ (i : Int) = aS p.items) (e2 : ¬ (i : Int) + 1 = aS p.items) :
    oS B Ls p f o (i + 1) = smO (p.items.getD i default) (oS B Ls p f o i) (gS B Ls (p.items.getD i default) (f.items.getD (kS B Ls p f o i) default)) ∧ kS B Ls p f o (i + 1) = kS B Ls p f o i + 1 ∧ bS B Ls p f o (i + 1) = (gS B Ls (p.items.getD i default) (f.items.getD (kS B Ls p f o i) default)).isSome := by
  obtain ⟨h1, h2, h3⟩ := sA_one (N := fun x => nm (hasI Ls) aS x 1) h e e2 rfl
  refine ⟨?_, h2, h3⟩
  have e3 : oS B Ls p f o (i + 1) = _ := h1
  rw [e3]
  unfold smO
  cases hg : gS B Ls (p.items.getD i default) (f.items.getD (kS B Ls p f o i) default) with
  | none => have hg' : gS B Ls (p.items.getD i default) (f.items.getD (kA (gS B Ls) (fun x => nm (hasI Ls) aS x 1) p.items f.items (aS p.items) (mS p f) o i) default) = none := hg
            rw [hg']; rfl
  | some c => have hg' : gS B Ls (p.items.getD i default) (f.items.getD (kA (gS B Ls) (fun x => nm (hasI Ls) aS x 1) p.items f.items (aS p.items) (mS p f) o i) default) = some c := hg
              rw [hg']; rfl
theorem sM_rep {i : Nat} (h : bS B Ls p f o i = true) (e2 : (i : Int) + 1 = aS p.items) :
    oS B Ls p f o (i + 1) = oS B Ls p f o i ++ rp (nS Ls (p.items.getD i default)) (rS B Ls p f o i (mS p f)) ∧ kS B Ls p f o (i + 1) = kS B Ls p f o i + (if qS B Ls p f o i (mS p f) = true then mS p f else (rS B Ls p f o i (mS p f)).length + 1) ∧ bS B Ls p f o (i + 1) = qS B Ls p f o i (mS p f) :=
  sA_rep (N := fun x => nm (hasI Ls) aS x 1) h e2 rfl rfl
theorem sM_stop {i n : Nat} (h : bS B Ls p f o i = false) (hn : i ≤ n) : oS B Ls p f o n = oS B Ls p f o i ∧ bS B Ls p f o n = false :=
  have t := sA_end (N := fun x => nm (hasI Ls) aS x 1) h hn
  ⟨t.1, t.2.2⟩
theorem sM_main (hf : fS p f = true) (i : Nat) (hi : i ≤ p.items.length) : (bS B Ls p f o i = true → (kS B Ls p f o i : Int) = kF (aS p.items) (mS p f) i ∧ ∃ c, oS B Ls p f o i = o ++ c ∧ c.length ≤ sumBy sizeY (p.items.take i) ∧
        mts (mng B) (hasI Ls) aS p.items 0 (aS p.items) (mS p f) f.items = (mts (mng B) (hasI Ls) aS (p.items.drop i) i (aS p.items) (mS p f) (f.items.drop (kS B Ls p f o i))).map (c ++ ·)) ∧
    (bS B Ls p f o i = false → mts (mng B) (hasI Ls) aS p.items 0 (aS p.items) (mS p f) f.items = none) := by
  have h := fS_at hf
  refine sA_main (fun ha => ?_) (fun ha => ?_) i hi
  · rcases h.2 with h | ⟨a, h⟩ <;> omega
  · rcases h.2 with h | ⟨a, h⟩ <;> omega
theorem sM_at (hf : fS p f = true) {i : Nat} (hi : i < p.items.length) (h : bS B Ls p f o i = true) : (oS B Ls p f o i).length + sizeY (p.items.getD i default) + 1 ≤ o.length + sizeY p ∧
    (¬ (i : Int) = aS p.items → ¬ (i : Int) + 1 = aS p.items → kS B Ls p f o i < f.items.length) ∧ ((i : Int) + 1 = aS p.items → kS B Ls p f o i + mS p f ≤ f.items.length) := by
  obtain ⟨hk, c, hc, hl, _⟩ := (sM_main (B := B) (Ls := Ls) (o := o) hf i (by omega)).1 h
  have hs := size_item hi
  have hfs := fS_at hf
  refine ⟨by rw [hc, List.length_append]; omega, fun h1 h2 => ?_, fun h1 => ?_⟩
  · unfold kF at hk
    rcases hfs.2 with h3 | ⟨a, h3⟩
    · rw [if_pos (by omega)] at hk; omega
    · split at hk
      · omega
      · first | omega | (rw [if_neg h1] at hk; omega)
  · unfold kF at hk
    rcases hfs.2 with h3 | ⟨a, h3⟩
    · omega
    · rw [if_pos (by omega)] at hk; omega
theorem gS_list (h0 : p.kind = 0) : gS B Ls p f = if fS p f = true then mts (mng B) (hasI Ls) aS p.items 0 (aS p.items) (mS p f) f.items else none := by
  unfold gS; rw [mt_eq, if_neg (by omega), if_pos h0]; rfl
theorem gS_out (h0 : p.kind = 0) (hf : fS p f = false) : gS B Ls p f = none := by rw [gS_list h0, hf]; rfl
theorem sM_end (h0 : p.kind = 0) (hf : fS p f = true) : (gS B Ls p f).isSome = bS B Ls p f o p.items.length ∧ smO p o (gS B Ls p f) = if bS B Ls p f o p.items.length = true then oS B Ls p f o p.items.length else [] := by
  rw [gS_list h0, if_pos hf]
  have hm := sM_main (B := B) (Ls := Ls) (o := o) hf _ (Nat.le_refl _)
  cases hb : bS B Ls p f o p.items.length with
  | false => rw [hm.2 hb]; exact ⟨rfl, by unfold smO flM; rw [if_pos h0]; rfl⟩
  | true =>
    obtain ⟨_, c, hc, _, he⟩ := hm.1 hb
    rw [he, hc, List.drop_length]
    simp only [mts, Option.map, smO, List.append_nil]
    exact ⟨rfl, rfl⟩
theorem smO_nil (x : Syntax) (r : Option (List Capture)) : smO x [] r = r.getD [] := by cases r <;> simp [smO, flM]
theorem smO_list {x : Syntax} (h : x.kind = 0) : smO x o none = [] := if_pos h
theorem gS_len {x y : Syntax} {c : List Capture} (h : gS B Ls x y = some c) : c.length = (nS Ls x).length := by
  rw [nS, nm_len1]; exact mt_len _ _ _ h
theorem nS_size (x : Syntax) : (nS Ls x).length ≤ sizeY x := nm_size _ _ _ _
theorem eV_of (hg : good Ls p) (h0 : p.kind = 0) {i : Nat} (hi : i < p.items.length) (ha : (i : Int) + 1 = aS p.items) : nS Ls (p.items.getD i default) = (eV Ls (p.items.getD i default)).map upC ∧ (vrS Ls (p.items.getD i default) 0 []) = some (eV Ls (p.items.getD i default)) := by
  obtain ⟨h1, _⟩ := good_rep hg h0 hi ha
  have e : eV Ls (p.items.getD i default) = nm (hasI Ls) aS (p.items.getD i default) 0 := by unfold eV; rw [h1]; rfl
  refine ⟨?_, by rw [e, h1]⟩
  rw [e]
  exact nm_dep _ _ _ 0
theorem upTo_zero (V : List Capture) : upTo V 0 = V := by simp [upTo]
theorem upTo_all {V : List Capture} {i : Nat} (h : V.length ≤ i) : upTo V i = V.map upC := by simp [upTo, List.take_of_length_le h, List.drop_eq_nil_of_le h]
theorem upTo_len (V : List Capture) (i : Nat) : (upTo V i).length = V.length := by simp [upTo, List.length_take, List.length_drop]; omega
theorem upTo_get {V : List Capture} {i : Nat} (h : i < V.length) : (upTo V i).getD i default = V.getD i default := by
  simp [upTo, List.getD_eq_getElem?_getD, List.getElem?_append, List.length_take, List.getElem?_drop, Nat.min_eq_left (Nat.le_of_lt h)]
theorem upTo_step {V : List Capture} {i : Nat} (h : i < V.length) : (upTo V i).set i (upC (V.getD i default)) = upTo V (i + 1) := by
  apply List.ext_getElem?
  intro j
  simp only [upTo, List.getElem?_set, List.getElem?_append, List.length_map, List.length_take, List.length_append, List.length_drop, List.getElem?_map, List.getElem?_take, List.getElem?_drop, List.getD_eq_getElem?_getD, Nat.min_eq_left (Nat.le_of_lt h), Nat.min_eq_left (show i + 1 ≤ V.length from h)]
  by_cases h1 : i = j
  · subst h1; simp [h]; omega
  · rw [if_neg h1]
    by_cases h2 : j < i
    · rw [if_pos h2, if_pos h2, if_pos (by omega), if_pos (by omega)]
    · rw [if_neg h2, if_neg (by omega)]; congr 1; omega
theorem etaP (x : Capture) : (⟨x.name, x.depth, x.form, x.each⟩ : Capture) = x := by cases x; rfl
theorem rp_nil (V : List Capture) : rp V [] = V := by
  apply List.ext_getElem?
  intro j
  simp only [rp, List.getElem?_map, List.getElem?_range', List.map_nil, List.append_nil, List.range_eq_range']
  by_cases h : j < V.length
  · simp [h]; exact etaP _
  · simp [h]
theorem rp_get {V : List Capture} {R : List (List Capture)} {i : Nat} (h : i < V.length) : (rp V R).getD i default = ⟨(V.getD i default).name, (V.getD i default).depth, (V.getD i default).form, (V.getD i default).each ++ R.map fun c => c.getD i default⟩ := by
  simp [rp, List.getD_eq_getElem?_getD, List.getElem?_range, h]
theorem rpTo_zero (V : List Capture) (R : List (List Capture)) (c : List Capture) : rpTo V R c 0 = rp V R := by simp [rpTo]
theorem rpTo_all {V : List Capture} {R : List (List Capture)} {c : List Capture} {u : Nat} (h : V.length ≤ u) : rpTo V R c u = rp V (R ++ [c]) := by
  unfold rpTo; rw [List.take_of_length_le (by rw [rp_len]; exact h), List.drop_eq_nil_of_le (by rw [rp_len]; exact h), List.append_nil]
theorem rpTo_len (V : List Capture) (R : List (List Capture)) (c : List Capture) (u : Nat) : (rpTo V R c u).length = V.length := by
  simp only [rpTo, List.length_append, List.length_take, List.length_drop, rp_len]; omega
theorem rpTo_get {V : List Capture} {R : List (List Capture)} {c : List Capture} {u : Nat} (h : u < V.length) : (rpTo V R c u).getD u default = (rp V R).getD u default := by
  simp [rpTo, List.getD_eq_getElem?_getD, List.getElem?_append, List.length_take, List.getElem?_drop, rp_len, Nat.min_eq_left (Nat.le_of_lt h)]
theorem rpTo_step {V : List Capture} {R : List (List Capture)} {c : List Capture} {u : Nat} (h : u < V.length) : (rpTo V R c u).set u ⟨((rp V R).getD u default).name, ((rp V R).getD u default).depth, ((rp V R).getD u default).form, ((rp V R).getD u default).each ++ [c.getD u default]⟩ = rpTo V R c (u + 1) := by
  have e : (⟨((rp V R).getD u default).name, ((rp V R).getD u default).depth, ((rp V R).getD u default).form, ((rp V R).getD u default).each ++ [c.getD u default]⟩ : Capture) = (rp V (R ++ [c])).getD u default := by
    rw [rp_get h, rp_get h]; simp
  rw [e]
  apply List.ext_getElem?
  intro j
  have hl := rp_len V R
  have hl2 := rp_len V (R ++ [c])
  simp only [rpTo, List.getElem?_set, List.getElem?_append, List.length_take, List.length_append, List.length_drop, List.getElem?_take, List.getElem?_drop, List.getD_eq_getElem?_getD, hl, hl2, Nat.min_eq_left (Nat.le_of_lt h), Nat.min_eq_left (show u + 1 ≤ V.length from h)]
  by_cases h1 : u = j
  · subst h1
    rw [if_pos rfl, if_pos (by omega), if_pos (by omega)]
    have : (rp V (R ++ [c]))[u]? = some ((rp V (R ++ [c]))[u]'(by omega)) := List.getElem?_eq_getElem _
    rw [this, if_pos (Nat.lt_succ_self u)]; rfl
  · rw [if_neg h1]
    by_cases h2 : j < u
    · rw [if_pos h2, if_pos h2, if_pos (by omega), if_pos (by omega)]
    · rw [if_neg h2, if_neg (by omega)]; congr 1; omega
abbrev outTo (L : List Capture) (u : Nat) : List (List Cell) := (L.take u).map capX ++ (L.drop u).map captureC
theorem outTo_get {L : List Capture} {u : Nat} (h : u < L.length) : (outTo L u)[u]? = some (captureC (L.getD u default)) := by
  simp [outTo, List.getD_eq_getElem?_getD, List.getElem?_append, List.length_take, List.getElem?_drop, h, Nat.min_eq_left (Nat.le_of_lt h)]
theorem outTo_step {L : List Capture} {u : Nat} (h : u < L.length) : (outTo L u).set u (capX (L.getD u default)) = outTo L (u + 1) := by
  apply List.ext_getElem?
  intro j
  simp only [outTo, List.getElem?_set, List.getElem?_append, List.length_map, List.length_take, List.length_append, List.length_drop, List.getElem?_map, List.getElem?_take, List.getElem?_drop, List.getD_eq_getElem?_getD, Nat.min_eq_left (Nat.le_of_lt h), Nat.min_eq_left (show u + 1 ≤ L.length from h)]
  by_cases h1 : u = j
  · subst h1; simp [h]; omega
  · rw [if_neg h1]
    by_cases h2 : j < u
    · rw [if_pos h2, if_pos h2, if_pos (by omega), if_pos (by omega)]
    · rw [if_neg h2, if_neg (by omega)]; congr 2; omega
theorem rS_zero (i : Nat) : rS B Ls p f o i 0 = [] ∧ qS B Ls p f o i 0 = true := ⟨rfl, rfl⟩
theorem rS_some {i t : Nat} {c : List Capture} (h : qS B Ls p f o i t = true) (hc : gS B Ls (p.items.getD i default) (f.items.getD (kS B Ls p f o i + t) default) = some c) : rS B Ls p f o i (t + 1) = rS B Ls p f o i t ++ [c] ∧ qS B Ls p f o i (t + 1) = true := by
  unfold rS qS; rw [rws_some h hc]; exact ⟨rfl, rfl⟩
theorem rS_none {i t : Nat} (h : qS B Ls p f o i t = true) (hc : gS B Ls (p.items.getD i default) (f.items.getD (kS B Ls p f o i + t) default) = none) : rS B Ls p f o i (t + 1) = rS B Ls p f o i t ∧ qS B Ls p f o i (t + 1) = false := by
  unfold rS qS; rw [rws_none h hc]; exact ⟨rfl, rfl⟩
theorem rS_len {i t : Nat} (h : qS B Ls p f o i t = true) : (rS B Ls p f o i t).length = t := rws_len t h
theorem rS_stop {i t : Nat} (h : qS B Ls p f o i t = false) {n : Nat} (hn : t ≤ n) : rS B Ls p f o i n = rS B Ls p f o i t ∧ qS B Ls p f o i n = false := by
  have e := rws_stop h (n - t)
  rw [show t + (n - t) = n by omega] at e
  unfold rS qS at *; rw [e]; exact ⟨rfl, h⟩
end
def oneS (B : List Binding) (Ls : List Syntax) (p f : Syntax) (o : List Capture) (s t : Nat) : List Capture := (gS B Ls (p.items.getD s default) (f.items.getD (kS B Ls p f o s + t) default)).getD []
theorem gS_wild {B : List Binding} {Ls : List Syntax} {p f : Syntax} {o : List Capture} (hk : p.kind = 1) (h : isUnd p = true) : gS B Ls p f = some [] ∧ smO p o (gS B Ls p f) = o := by
  have e : gS B Ls p f = some [] := by unfold gS; rw [mt_eq, if_pos hk, if_pos h]
  rw [e]; exact ⟨rfl, List.append_nil o⟩
theorem gS_lit {B : List Binding} {Ls : List Syntax} {p f : Syntax} {o : List Capture} (hk : p.kind = 1) (h : isUnd p = false) (h2 : hasI Ls p = true) : (gS B Ls p f).isSome = (decide (f.kind = 1) && mng B p f) ∧ smO p o (gS B Ls p f) = o := by
  have e : gS B Ls p f = if f.kind = 1 ∧ mng B p f = true then some [] else none := by unfold gS; rw [mt_eq, if_pos hk, if_neg (by simp [h]), if_pos h2]
  rw [e]
  by_cases hc : f.kind = 1 ∧ mng B p f = true
  · rw [if_pos hc]; exact ⟨by simp [hc.1, hc.2], List.append_nil o⟩
  · rw [if_neg hc]
    refine ⟨?_, by unfold smO flM; simp only; rw [if_neg (by omega)]⟩
    cases h3 : decide (f.kind = 1) <;> cases h4 : mng B p f <;> simp_all
theorem gS_sym {B : List Binding} {Ls : List Syntax} {p f : Syntax} {o : List Capture} (hk : p.kind = 1) (h : isUnd p = false) (h2 : hasI Ls p = false) : gS B Ls p f = some [capF p f] ∧ smO p o (gS B Ls p f) = o ++ [capF p f] := by
  have e : gS B Ls p f = some [capF p f] := by unfold gS; rw [mt_eq, if_pos hk, if_neg (by simp [h]), if_neg (by simp [h2])]
  rw [e]; exact ⟨rfl, rfl⟩
theorem gS_other {B : List Binding} {Ls : List Syntax} {p f : Syntax} {o : List Capture} (hk : ¬ p.kind = 1) (h0 : ¬ p.kind = 0) : (gS B Ls p f).isSome = (decide (f.kind = p.kind) && decide (f.number = p.number) && decide (f.text = p.text)) ∧ smO p o (gS B Ls p f) = o := by
  have e : gS B Ls p f = if f.kind = p.kind ∧ f.number = p.number ∧ f.text = p.text then some [] else none := by unfold gS; rw [mt_eq, if_neg hk, if_neg h0]
  rw [e]
  by_cases hc : f.kind = p.kind ∧ f.number = p.number ∧ f.text = p.text
  · rw [if_pos hc]; exact ⟨by simp [hc.1, hc.2.1, hc.2.2], List.append_nil o⟩
  · rw [if_neg hc]
    refine ⟨?_, by unfold smO flM; simp only; rw [if_neg h0]⟩
    symm; simp only [Option.isSome]; rw [Bool.eq_false_iff]; simp only [ne_eq, Bool.and_eq_true, decide_eq_true_eq]; rintro ⟨⟨a, b⟩, c⟩; exact hc ⟨a, b, c⟩
theorem capF_snoc (o : List Capture) (p f : Syntax) : o.map captureC ++ [[cI p.kind, cI p.number, cS p.text, Cell.list (List.map intC p.scopes), Cell.list (List.map syntaxC p.items), cI 0, cI f.kind, cI f.number, cS f.text, Cell.list (List.map intC f.scopes), Cell.list (List.map syntaxC f.items), Cell.list []]] = (o ++ [capF p f]).map captureC :=
  rowSnoc (C := captureC) o (capF p f)
def mtB (B : List Binding) (Ls : List Syntax) (p f : Syntax) : Bool := okL Ls && isSyn p && (vrS Ls p 0 []).isSome && areB B && isSyn f && (gS B Ls p f).isSome
def mtO (B : List Binding) (Ls : List Syntax) (p f : Syntax) : List Capture := if mtB B Ls p f = true then (gS B Ls p f).getD [] else []
theorem mt_good {Ls : List Syntax} {p : Syntax} (hp : isSyn p = true) (hv : (vrS Ls p 0 []).isSome = true) : good Ls p ∧ sizeY p ≤ 2000 ∧ depY p ≤ 40 := by
  simp only [isSyn, Bool.and_eq_true, decide_eq_true_eq] at hp
  obtain ⟨r, hr⟩ := Option.isSome_iff_exists.1 hv
  exact ⟨⟨hp.2, 0, [], r, by omega, hr⟩, hp.1.1, hp.1.2⟩
end Go.Proofs.YtpnaoendfpaodaaGreat
end
section
namespace Go.Proofs.YtpnaoendfpaodaaGreat
open Go Go.Proofs.YtpnaoendfpaodaaGreat.Ab
set_option linter.unusedVariables false
set_option linter.unusedSimpArgs false
def alM (g : Syntax → Syntax → Option (List Capture)) : List Syntax → List Syntax → Option (List Capture)
  | [], _ => some []
  | x :: r, fs => match g x (fs.getD 0 default) with
    | none => none
    | some c => match alM g r (fs.drop 1) with
      | none => none
      | some d => some (c ++ d)
def alO (o : List Capture) (r : Option (List Capture)) : List Capture := match r with | none => [] | some c => o ++ c
theorem alM_append (g : Syntax → Syntax → Option (List Capture)) : ∀ (A C : List Syntax) (fs : List Syntax), alM g (A ++ C) fs = match alM g A fs with | none => none | some c => match alM g C (fs.drop A.length) with | none => none | some d => some (c ++ d)
  | [], C, fs => by
    simp only [List.nil_append, alM, List.length_nil, List.drop_zero]
    cases alM g C fs <;> rfl
  | y :: A, C, fs => by
    have e : (fs.drop 1).drop A.length = fs.drop (y :: A).length := by rw [List.drop_drop, List.length_cons, Nat.add_comm]
    simp only [List.cons_append, alM, alM_append g A C, e]
    cases g y (fs.getD 0 default) with
    | none => rfl
    | some c =>
      cases alM g A (fs.drop 1) with
      | none => rfl
      | some d =>
        cases alM g C (fs.drop (y :: A).length) with
        | none => rfl
        | some d2 => simp [List.append_assoc]
theorem alM_step {g : Syntax → Syntax → Option (List Capture)} {ps fs : List Syntax} {k : Nat} (h : k < ps.length) : alM g (ps.take (k + 1)) fs = match alM g (ps.take k) fs with | none => none | some c => (match g (ps.getD k default) (fs.getD k default) with | none => none | some d => some (c ++ d)) := by
  have e : (fs.drop k).getD 0 default = fs.getD k default := by simp [List.getD_eq_getElem?_getD]
  rw [take_get h, alM_append, List.length_take, Nat.min_eq_left (Nat.le_of_lt h)]
  simp only [alM, e]
  cases alM g (ps.take k) fs with
  | none => rfl
  | some c => cases g (ps.getD k default) (fs.getD k default) <;> simp
theorem al_zero {g : Syntax → Syntax → Option (List Capture)} {ps fs : List Syntax} {o : List Capture} : alO o (alM g (ps.take 0) fs) = o ∧ (alM g (ps.take 0) fs).isSome = true := by
  simp [alM, alO]
theorem al_go {g : Syntax → Syntax → Option (List Capture)} {ps fs : List Syntax} {o : List Capture} {k : Nat} (h : k < ps.length) (hs : (alM g (ps.take k) fs).isSome = true) :
    (alM g (ps.take (k + 1)) fs).isSome = (g (ps.getD k default) (fs.getD k default)).isSome ∧ ((g (ps.getD k default) (fs.getD k default)).isSome = true → alO o (alM g (ps.take (k + 1)) fs) = smO (ps.getD k default) (alO o (alM g (ps.take k) fs)) (g (ps.getD k default) (fs.getD k default))) := by
  obtain ⟨c, hc⟩ := Option.isSome_iff_exists.1 hs
  rw [alM_step h, hc]
  cases g (ps.getD k default) (fs.getD k default) with
  | none => exact ⟨rfl, fun h => by cases h⟩
  | some d => exact ⟨rfl, fun _ => by simp [alO, smO, List.append_assoc]⟩
theorem al_stop {g : Syntax → Syntax → Option (List Capture)} {ps fs : List Syntax} {k : Nat} (h : (alM g (ps.take k) fs).isSome = false) : alM g ps fs = none := by
  have e := alM_append g (ps.take k) (ps.drop k) fs
  rw [List.take_append_drop] at e
  cases h2 : alM g (ps.take k) fs with
  | none => rw [h2] at e; exact e
  | some c => rw [h2] at h; cases h
theorem al_all {g : Syntax → Syntax → Option (List Capture)} {ps fs : List Syntax} {k : Nat} (h : ps.length ≤ k) : alM g (ps.take k) fs = alM g ps fs := by rw [List.take_of_length_le h]
theorem alM_len {g : Syntax → Syntax → Option (List Capture)} : ∀ (ps : List Syntax) (fs : List Syntax) (c : List Capture), (∀ x ∈ ps, ∀ f c, g x f = some c → c.length ≤ sizeY x) → alM g ps fs = some c → c.length ≤ sumBy sizeY ps
  | [], fs, c, _, e => by simp only [alM, Option.some.injEq] at e; subst e; simp [sumBy]
  | x :: r, fs, c, h, e => by
    simp only [alM] at e
    simp only [sumBy]
    split at e
    · cases e
    · rename_i c1 h1
      split at e
      · cases e
      · rename_i c2 h2
        simp only [Option.some.injEq] at e; subst e
        have := alM_len r _ _ (fun y hy => h y (List.mem_cons_of_mem _ hy)) h2
        have := h x List.mem_cons_self _ _ h1
        rw [List.length_append]; omega
theorem alM_take (g : Syntax → Syntax → Option (List Capture)) : ∀ (ps fs : List Syntax) (n : Nat), ps.length ≤ n → alM g ps (fs.take n) = alM g ps fs
  | [], _, _, _ => rfl
  | x :: r, fs, n, h => by
    cases n with
    | zero => simp at h
    | succ n =>
      have h' : r.length ≤ n := by simpa using h
      cases fs with
      | nil => simp [alM]
      | cons f fs => simp only [alM, List.take_succ_cons, List.drop_succ_cons, List.drop_zero, List.getD_cons_zero, alM_take g r fs n h']
theorem mts_plain {M : Syntax → Syntax → Bool} {H : Syntax → Bool} {A : List Syntax → Int} {a : Int} {m : Nat} : ∀ (l : List Syntax) (i : Int) (fs : List Syntax), (∀ k : Nat, k < l.length → i + k ≠ a ∧ i + k + 1 ≠ a) → mts M H A l i a m fs = alM (mt M H A) l fs
  | [], _, _, _ => by simp [mts, alM]
  | x :: r, i, fs, h => by
    have h0 := h 0 (by simp)
    have ih := mts_plain (M := M) (H := H) (A := A) (a := a) (m := m) r (i + 1) (fs.drop 1) (fun k hk => by
      have := h (k + 1) (by simp; omega)
      rw [show i + ((k + 1 : Nat) : Int) = i + 1 + (k : Int) by omega] at this; exact this)
    simp only [mts, alM]
    rw [if_neg (by simpa using h0.1), if_neg (by simpa using h0.2), ih]
    all_goals rfl
theorem mts_rep {M : Syntax → Syntax → Bool} {H : Syntax → Bool} {A : List Syntax → Int} {a : Int} {m : Nat} {x y : Syntax} {post : List Syntax} : ∀ (pre : List Syntax) (i : Int) (fs : List Syntax), i + pre.length + 1 = a →
    mts M H A (pre ++ x :: y :: post) i a m fs = match alM (mt M H A) pre fs with | none => none | some c1 => (match mtr (mt M H A x) ((fs.drop pre.length).take m) with | none => none | some R => (match alM (mt M H A) post (fs.drop (pre.length + m)) with | none => none | some c2 => some (c1 ++ (rp (nm H A x 1) R ++ c2))))
  | [], i, fs, h => by
    have h1 : ¬ i = a := by simp at h; omega
    have h2 : i + 1 = a := by simpa using h
    have e := mts_plain (M := M) (H := H) (A := A) (a := a) (m := m) post (i + 1 + 1) (fs.drop m) (fun k _ => by omega)
    simp only [List.nil_append, mts, alM, List.length_nil, List.drop_zero, Nat.zero_add]
    rw [if_neg h1, if_pos h2, if_pos h2, e]
    all_goals rfl
  | z :: pre, i, fs, h => by
    have hl : ((z :: pre).length : Int) = pre.length + 1 := by simp
    have h1 : ¬ i = a := by omega
    have h2 : ¬ i + 1 = a := by omega
    have ih := mts_rep (M := M) (H := H) (A := A) (a := a) (m := m) (x := x) (y := y) (post := post) pre (i + 1) (fs.drop 1) (by omega)
    have e1 : (fs.drop 1).drop pre.length = fs.drop (z :: pre).length := by rw [List.drop_drop, List.length_cons, Nat.add_comm]
    have e2 : (fs.drop 1).drop (pre.length + m) = fs.drop ((z :: pre).length + m) := by rw [List.drop_drop, List.length_cons]; congr 1; omega
    simp only [List.cons_append, mts, alM]
    rw [if_neg h1, if_neg h2, ih, e1, e2]
    cases mt M H A z (fs.getD 0 default) with
    | none => rfl
    | some c =>
      simp only
      cases alM (mt M H A) pre (fs.drop 1) with
      | none => rfl
      | some c1 =>
        simp only
        cases mtr (mt M H A x) ((fs.drop (z :: pre).length).take m) with
        | none => rfl
        | some R =>
          simp only
          cases alM (mt M H A) post (fs.drop ((z :: pre).length + m)) with
          | none => rfl
          | some c2 => simp [List.append_assoc]
def gI (B : List Binding) (Ls : List Syntax) : Syntax → Syntax → Option (List Capture) := mt (mng B) (hasJ Ls) atI
def nI (Ls : List Syntax) (x : Syntax) : List Capture := nm (hasJ Ls) atI x 1
def aT (p : Syntax) : Nat := (atI p.items - 1).toNat
def xI (p : Syntax) : Syntax := p.items.getD (aT p) default
def mI2 (p f : Syntax) : Nat := ((f.items.length : Int) - ((p.items.length : Int) - 2)).toNat
def rI (B : List Binding) (Ls : List Syntax) (p f : Syntax) (t : Nat) : List (List Capture) := (rws (gI B Ls (xI p)) f.items (aT p) t).1
def qI (B : List Binding) (Ls : List Syntax) (p f : Syntax) (t : Nat) : Bool := (rws (gI B Ls (xI p)) f.items (aT p) t).2
section
variable {B : List Binding} {Ls : List Syntax} {p f : Syntax} {o : List Capture}
theorem gI_len {x y : Syntax} {c : List Capture} (h : gI B Ls x y = some c) : c.length = (nI Ls x).length := by
  rw [nI, nm_len1]; exact mt_len _ _ _ h
theorem nI_size (x : Syntax) : (nI Ls x).length ≤ sizeY x := nm_size _ _ _ _
theorem alI_len {ps fs : List Syntax} {c : List Capture} (h : alM (gI B Ls) ps fs = some c) : c.length ≤ sumBy sizeY ps :=
  alM_len ps fs c (fun x _ f c e => by have := gI_len e; have := nI_size (Ls := Ls) x; omega) h
theorem alO_len {ps fs : List Syntax} : (alO o (alM (gI B Ls) ps fs)).length ≤ o.length + sumBy sizeY ps := by
  cases h : alM (gI B Ls) ps fs with
  | none => simp [alO]
  | some c => have := alI_len h; simp only [alO, List.length_append]; omega
theorem gI_list (h0 : p.kind = 0) : gI B Ls p f = if fitM (atI p.items) p.items f = true then mts (mng B) (hasJ Ls) atI p.items 0 (atI p.items) (many (atI p.items) p.items.length f.items.length).toNat f.items else none := by
  unfold gI; rw [mt_eq, if_neg (by omega), if_pos h0]
theorem gI_kind (h0 : p.kind = 0) (hf : ¬ f.kind = 0) : gI B Ls p f = none := by
  rw [gI_list h0, if_neg (by simp [fitM, hf])]
theorem gI_flat (h0 : p.kind = 0) (hf : f.kind = 0) (ha : atI p.items < 0) : gI B Ls p f = if p.items.length = f.items.length then alM (gI B Ls) p.items f.items else none := by
  have e : fitM (atI p.items) p.items f = decide (f.items.length = p.items.length) := by
    simp only [fitM, many, if_neg (show ¬ 0 ≤ atI p.items by omega), hf]; simp; omega
  rw [gI_list h0, e, mts_plain _ _ _ (fun k _ => by omega)]
  by_cases h : p.items.length = f.items.length
  · rw [if_pos h, if_pos (by simp [h])]; rfl
  · rw [if_neg h, if_neg (by simp; omega)]
theorem gI_few (h0 : p.kind = 0) (hf : f.kind = 0) (ha : 0 ≤ atI p.items) (hm : (f.items.length : Int) - ((p.items.length : Int) - 2) < 0) : gI B Ls p f = none := by
  have e : fitM (atI p.items) p.items f = false := by
    simp only [fitM, many, if_pos ha]; simp; omega
  rw [gI_list h0, e]; rfl
theorem gI_many (h0 : p.kind = 0) (hf : f.kind = 0) (ha : 1 ≤ atI p.items) (hl : atI p.items < p.items.length) (hm : 0 ≤ (f.items.length : Int) - ((p.items.length : Int) - 2)) :
    gI B Ls p f = match alM (gI B Ls) (p.items.take (aT p)) (f.items.take (aT p)) with | none => none | some c1 => if qI B Ls p f (mI2 p f) = true then (match alM (gI B Ls) (p.items.drop (aT p + 2)) (f.items.drop (aT p + mI2 p f)) with | none => none | some c2 => some (c1 ++ (rp (nI Ls (xI p)) (rI B Ls p f (mI2 p f)) ++ c2))) else none := by
  have e : fitM (atI p.items) p.items f = true := by
    simp only [fitM, many, if_pos (show 0 ≤ atI p.items by omega), hf]; simp; omega
  have ea : (aT p : Int) + 1 = atI p.items := by unfold aT; omega
  have em : (many (atI p.items) p.items.length f.items.length).toNat = mI2 p f := by unfold many mI2; rw [if_pos (by omega)]
  have h1 : aT p < p.items.length := by omega
  have h2 : aT p + 1 < p.items.length := by omega
  have es : p.items = p.items.take (aT p) ++ (xI p :: p.items.getD (aT p + 1) default :: p.items.drop (aT p + 2)) := by
    have e1 : p.items.drop (aT p) = xI p :: p.items.drop (aT p + 1) := by
      rw [List.drop_eq_getElem_cons h1]; simp [xI, h1]
    have e2 : p.items.drop (aT p + 1) = p.items.getD (aT p + 1) default :: p.items.drop (aT p + 2) := by
      rw [List.drop_eq_getElem_cons h2]; simp [h2]
    rw [← e2, ← e1, List.take_append_drop]
  have el : (p.items.take (aT p)).length = aT p := by rw [List.length_take, Nat.min_eq_left (by omega)]
  have er : aT p + mI2 p f ≤ f.items.length := by unfold mI2; omega
  rw [gI_list h0, e, if_pos rfl, em]
  have k := mts_rep (M := mng B) (H := hasJ Ls) (A := atI) (a := atI p.items) (m := mI2 p f) (x := xI p) (y := p.items.getD (aT p + 1) default) (post := p.items.drop (aT p + 2)) (p.items.take (aT p)) 0 f.items (by rw [el]; omega)
  rw [← es, el] at k
  rw [k, rws_mtr (mI2 p f) er, alM_take _ _ _ _ (by rw [el]; exact Nat.le_refl _)]
  show (match alM (gI B Ls) _ _ with | none => none | some c1 => _) = _
  cases alM (gI B Ls) (p.items.take (aT p)) f.items with
  | none => rfl
  | some c1 =>
    show (match (if qI B Ls p f (mI2 p f) = true then some (rI B Ls p f (mI2 p f)) else none) with | none => none | some R => _) = _
    by_cases hq : qI B Ls p f (mI2 p f) = true
    · rw [if_pos hq]; simp only [hq, if_pos]; rfl
    · rw [if_neg hq]; simp only; rw [if_neg hq]
theorem gI_pre (h0 : p.kind = 0) (hf : f.kind = 0) (ha : 1 ≤ atI p.items) (hl : atI p.items < p.items.length) (hm : 0 ≤ (f.items.length : Int) - ((p.items.length : Int) - 2)) (h : (alM (gI B Ls) (p.items.take (aT p)) (f.items.take (aT p))).isSome = false) : gI B Ls p f = none := by
  rw [gI_many h0 hf ha hl hm]
  cases h2 : alM (gI B Ls) (p.items.take (aT p)) (f.items.take (aT p)) with
  | none => rfl
  | some c => rw [h2] at h; cases h
theorem rI_stop {t : Nat} (h : qI B Ls p f t = false) {n : Nat} (hn : t ≤ n) : qI B Ls p f n = false := by
  have e := rws_stop h (n - t)
  rw [show t + (n - t) = n by omega] at e
  unfold qI at *; rw [e]; exact h
theorem gI_round (h0 : p.kind = 0) (hf : f.kind = 0) (ha : 1 ≤ atI p.items) (hl : atI p.items < p.items.length) (hm : 0 ≤ (f.items.length : Int) - ((p.items.length : Int) - 2)) {t : Nat} (ht : t ≤ mI2 p f) (h : qI B Ls p f t = false) : gI B Ls p f = none := by
  rw [gI_many h0 hf ha hl hm, rI_stop h ht]
  cases alM (gI B Ls) (p.items.take (aT p)) (f.items.take (aT p)) <;> rfl
theorem gI_done (h0 : p.kind = 0) (hf : f.kind = 0) (ha : 1 ≤ atI p.items) (hl : atI p.items < p.items.length) (hm : 0 ≤ (f.items.length : Int) - ((p.items.length : Int) - 2)) (h : (alM (gI B Ls) (p.items.take (aT p)) (f.items.take (aT p))).isSome = true) (hq : qI B Ls p f (mI2 p f) = true) :
    (gI B Ls p f).isSome = (alM (gI B Ls) (p.items.drop (aT p + 2)) (f.items.drop (aT p + mI2 p f))).isSome ∧ smO p o (gI B Ls p f) = alO (alO o (alM (gI B Ls) (p.items.take (aT p)) (f.items.take (aT p))) ++ rp (nI Ls (xI p)) (rI B Ls p f (mI2 p f))) (alM (gI B Ls) (p.items.drop (aT p + 2)) (f.items.drop (aT p + mI2 p f))) := by
  obtain ⟨c, hc⟩ := Option.isSome_iff_exists.1 h
  rw [gI_many h0 hf ha hl hm, hc]
  simp only [hq, ↓reduceIte]
  cases alM (gI B Ls) (p.items.drop (aT p + 2)) (f.items.drop (aT p + mI2 p f)) with
  | none => exact ⟨rfl, by simp [smO, flM, h0, alO]⟩
  | some d => exact ⟨rfl, by simp [smO, alO, List.append_assoc]⟩
theorem gI_flat2 (h0 : p.kind = 0) (hf : f.kind = 0) (ha : atI p.items < 0) (hl : p.items.length = f.items.length) : (gI B Ls p f).isSome = (alM (gI B Ls) p.items f.items).isSome ∧ smO p o (gI B Ls p f) = alO o (alM (gI B Ls) p.items f.items) := by
  rw [gI_flat h0 hf ha, if_pos hl]
  cases alM (gI B Ls) p.items f.items with
  | none => exact ⟨rfl, by simp [smO, flM, h0, alO]⟩
  | some d => exact ⟨rfl, rfl⟩
theorem rI_some {t : Nat} {c : List Capture} (h : qI B Ls p f t = true) (hc : gI B Ls (xI p) (f.items.getD (aT p + t) default) = some c) : rI B Ls p f (t + 1) = rI B Ls p f t ++ [c] ∧ qI B Ls p f (t + 1) = true := by
  unfold rI qI; rw [rws_some h hc]; exact ⟨rfl, rfl⟩
theorem rI_none {t : Nat} (h : qI B Ls p f t = true) (hc : gI B Ls (xI p) (f.items.getD (aT p + t) default) = none) : qI B Ls p f (t + 1) = false := by
  unfold qI; rw [rws_none h hc]
theorem rI_len {t : Nat} (h : qI B Ls p f t = true) : (rI B Ls p f t).length = t := rws_len t h
def oneI (B : List Binding) (Ls : List Syntax) (p f : Syntax) (t : Nat) : List Capture := (gI B Ls (xI p) (f.items.getD (aT p + t) default)).getD []
theorem atI_of (hg : good Ls p) (h0 : p.kind = 0) : atI p.items = aS p.items ∧ (atI p.items = -1 ∨ 1 ≤ atI p.items ∧ atI p.items < p.items.length) := by
  have hs := good_okS hg h0
  have e1 : aS p.items = atI p.items := by rw [(atI_ok hs).1]; exact if_pos hs
  refine ⟨e1.symm, ?_⟩
  rcases aS_at p.items with h | ⟨a, h1, h2, h3⟩
  · exact .inl (by rw [← e1]; exact h)
  · exact .inr ⟨by omega, by omega⟩
theorem aT_of (ha : 1 ≤ atI p.items) (hl : atI p.items < p.items.length) : (aT p : Int) = atI p.items - 1 ∧ aT p + 2 ≤ p.items.length := by
  unfold aT; omega
theorem xI_good (hg : good Ls p) (h0 : p.kind = 0) (ha : 1 ≤ atI p.items) (hl : atI p.items < p.items.length) : good Ls (xI p) ∧ xI p ∈ p.items := by
  have h := aT_of ha hl
  have e := atI_of hg h0
  exact ⟨good_item hg h0 (k := aT p) (by omega) (by omega), getD_mem' (by omega)⟩
theorem nI_of (hL : Ls.all litP = true) (hg : good Ls p) (h0 : p.kind = 0) (ha : 1 ≤ atI p.items) (hl : atI p.items < p.items.length) : vrI Ls (xI p) 1 [] = some (nI Ls (xI p)) := by
  have h := aT_of ha hl
  have e := atI_of hg h0
  have hL' := List.all_eq_true.1 hL
  have hx := xI_good hg h0 ha hl
  have h1 := (good_rep hg h0 (k := aT p) (by omega) (by omega)).2
  have h2 := (vr_same hL' (xI p) hx.1.1 1 [] (by simp)).1
  have h3 := (mt_same (M := fun _ _ => true) hL' (xI p) hx.1).2 1
  rw [h2]
  show vrS Ls (p.items.getD (aT p) default) 1 [] = some (nm (hasJ Ls) atI (xI p) 1)
  rw [h1]; exact congrArg some h3
theorem mem_getD {L : List Syntax} {z : Syntax} (h : z ∈ L) : ∃ k, k < L.length ∧ L.getD k default = z := by
  obtain ⟨k, hk, e⟩ := List.mem_iff_getElem.1 h
  exact ⟨k, hk, by simp [hk, e]⟩
theorem good_pre (hg : good Ls p) (h0 : p.kind = 0) (ha : 1 ≤ atI p.items) (hl : atI p.items < p.items.length) (hd : depY p ≤ 40) : ∀ z ∈ p.items.take (aT p), good Ls z ∧ depY z ≤ 40 := by
  intro z hz
  have h := aT_of ha hl
  have e := atI_of hg h0
  obtain ⟨k, hk, rfl⟩ := mem_getD hz
  rw [List.length_take] at hk
  have e2 : (p.items.take (aT p)).getD k default = p.items.getD k default := by
    simp only [List.getD_eq_getElem?_getD, List.getElem?_take]; rw [if_pos (by omega)]
  rw [e2]
  have := depY_item (t := p) (k := k) (by omega)
  exact ⟨good_item hg h0 (by omega) (by omega), by omega⟩
theorem good_post (hg : good Ls p) (h0 : p.kind = 0) (ha : 1 ≤ atI p.items) (hl : atI p.items < p.items.length) (hd : depY p ≤ 40) : ∀ z ∈ p.items.drop (aT p + 2), good Ls z ∧ depY z ≤ 40 := by
  intro z hz
  have h := aT_of ha hl
  have e := atI_of hg h0
  obtain ⟨k, hk, rfl⟩ := mem_getD hz
  rw [List.length_drop] at hk
  have e2 : (p.items.drop (aT p + 2)).getD k default = p.items.getD (aT p + 2 + k) default := by
    simp only [List.getD_eq_getElem?_getD, List.getElem?_drop]
  rw [e2]
  have := depY_item (t := p) (k := aT p + 2 + k) (by omega)
  exact ⟨good_item hg h0 (by omega) (by omega), by omega⟩
theorem good_flat (hg : good Ls p) (h0 : p.kind = 0) (ha : atI p.items < 0) (hd : depY p ≤ 40) : ∀ z ∈ p.items, good Ls z ∧ depY z ≤ 40 := by
  intro z hz
  have e := atI_of hg h0
  obtain ⟨k, hk, rfl⟩ := mem_getD hz
  have := depY_item (t := p) (k := k) hk
  exact ⟨good_item hg h0 hk (by omega), by omega⟩
theorem sumBy_dropLe {α : Type} (c : α → Nat) (L : List α) (i : Nat) : sumBy c (L.drop i) ≤ sumBy c L := by
  have e : sumBy c (L.take i ++ L.drop i) = sumBy c L := by rw [List.take_append_drop]
  rw [sumBy_append] at e; omega
theorem parts_le (ha : 1 ≤ atI p.items) (hl : atI p.items < p.items.length) : sumBy sizeY (p.items.take (aT p)) + sizeY (xI p) + sumBy sizeY (p.items.drop (aT p + 2)) + 1 ≤ sizeY p ∧ sumBy wY (p.items.take (aT p)) ≤ wY p ∧ wY (xI p) ≤ wY p ∧ sumBy wY (p.items.drop (aT p + 2)) ≤ wY p ∧ sumBy wY p.items ≤ wY p := by
  have h := aT_of ha hl
  have g1 := sizeY_eq p
  have g2 := wY_eq p
  have g3 := sumBy_takeLe wY p.items (aT p)
  have g4 := sumBy_dropLe wY p.items (aT p + 2)
  have g5 := sumBy_mem wY (getD_mem' (L := p.items) (k := aT p) (by omega))
  have g6 := sumBy_drop sizeY (L := p.items) (k := aT p) (by omega)
  have g7 := sumBy_drop sizeY (L := p.items) (k := aT p + 1) (by omega)
  have e : sumBy sizeY (p.items.take (aT p) ++ p.items.drop (aT p)) = sumBy sizeY p.items := by rw [List.take_append_drop]
  rw [sumBy_append] at e
  refine ⟨?_, by omega, ?_, by omega, by omega⟩
  · show _ + sizeY (p.items.getD (aT p) default) + _ + 1 ≤ _
    rw [show aT p + 1 + 1 = aT p + 2 by omega] at g7; omega
  · show wY (p.items.getD (aT p) default) ≤ _
    omega
def fI (p f : Syntax) : Bool := decide (p.kind = 0) && decide (f.kind = 0) && decide (1 ≤ atI p.items) && decide (atI p.items < p.items.length) && decide (0 ≤ (f.items.length : Int) - ((p.items.length : Int) - 2))
theorem fI_at (h : fI p f = true) : p.kind = 0 ∧ f.kind = 0 ∧ 1 ≤ atI p.items ∧ atI p.items < p.items.length ∧ 0 ≤ (f.items.length : Int) - ((p.items.length : Int) - 2) := by
  simp only [fI, Bool.and_eq_true, decide_eq_true_eq] at h; exact ⟨h.1.1.1.1, h.1.1.1.2, h.1.1.2, h.1.2, h.2⟩
theorem fI_of (h0 : p.kind = 0) (hf : f.kind = 0) (ha : 0 ≤ atI p.items) (hg : good Ls p) (hm : 0 ≤ (f.items.length : Int) - ((p.items.length : Int) - 2)) : fI p f = true := by
  have e := (atI_of hg h0).2
  simp only [fI, Bool.and_eq_true, decide_eq_true_eq]; omega
theorem fI_nums (h : fI p f = true) : (aT p : Int) = atI p.items - 1 ∧ aT p + 2 ≤ p.items.length ∧ (mI2 p f : Int) = (f.items.length : Int) - ((p.items.length : Int) - 2) ∧ aT p + mI2 p f ≤ f.items.length := by
  obtain ⟨_, _, ha, hl, hm⟩ := fI_at h
  have := aT_of ha hl
  unfold mI2; omega
theorem fI_x (h : fI p f = true) (hg : good Ls p) : good Ls (xI p) ∧ xI p ∈ p.items ∧ depY (xI p) + 1 ≤ depY p ∧ sizeY (xI p) ≤ sizeY p ∧ wY (xI p) ≤ wY p := by
  obtain ⟨h0, _, ha, hl, _⟩ := fI_at h
  have h1 := xI_good hg h0 ha hl
  have h2 := parts_le ha hl
  have h3 := depY_item (t := p) (k := aT p) (by have := aT_of ha hl; omega)
  refine ⟨h1.1, h1.2, ?_, by omega, by omega⟩
  show depY (p.items.getD (aT p) default) + 1 ≤ _
  omega
theorem fI_pre (h : fI p f = true) (hn : (alM (gI B Ls) (p.items.take (aT p)) (f.items.take (aT p))).isSome = false) : gI B Ls p f = none := by
  obtain ⟨h0, hf, ha, hl, hm⟩ := fI_at h
  exact gI_pre h0 hf ha hl hm hn
theorem fI_round (h : fI p f = true) {t : Nat} (ht : t ≤ mI2 p f) (hq : qI B Ls p f t = false) : gI B Ls p f = none := by
  obtain ⟨h0, hf, ha, hl, hm⟩ := fI_at h
  exact gI_round h0 hf ha hl hm ht hq
theorem fI_done (h : fI p f = true) (hn : (alM (gI B Ls) (p.items.take (aT p)) (f.items.take (aT p))).isSome = true) (hq : qI B Ls p f (mI2 p f) = true) :
    (gI B Ls p f).isSome = (alM (gI B Ls) (p.items.drop (aT p + 2)) (f.items.drop (aT p + mI2 p f))).isSome ∧ smO p o (gI B Ls p f) = alO (alO o (alM (gI B Ls) (p.items.take (aT p)) (f.items.take (aT p))) ++ rp (nI Ls (xI p)) (rI B Ls p f (mI2 p f))) (alM (gI B Ls) (p.items.drop (aT p + 2)) (f.items.drop (aT p + mI2 p f))) := by
  obtain ⟨h0, hf, ha, hl, hm⟩ := fI_at h
  exact gI_done h0 hf ha hl hm hn hq
theorem fI_few (h0 : p.kind = 0) (hf : f.kind = 0) (ha : 0 ≤ atI p.items) (hm : (f.items.length : Int) - ((p.items.length : Int) - 2) < 0) : gI B Ls p f = none := gI_few h0 hf ha hm
theorem fI_nI (hL : Ls.all litP = true) (hg : good Ls p) (h : fI p f = true) : vrI Ls (xI p) 1 [] = some (nI Ls (xI p)) := by
  obtain ⟨h0, _, ha, hl, _⟩ := fI_at h
  exact nI_of hL hg h0 ha hl
theorem gI_flatN (h0 : p.kind = 0) (hf : f.kind = 0) (ha : atI p.items < 0) (hl : ¬ p.items.length = f.items.length) : gI B Ls p f = none := by rw [gI_flat h0 hf ha, if_neg hl]
theorem oneI_len {t : Nat} (h : (gI B Ls (xI p) (f.items.getD (aT p + t) default)).isSome = true) : (oneI B Ls p f t).length = (nI Ls (xI p)).length := by
  obtain ⟨c, hc⟩ := Option.isSome_iff_exists.1 h
  unfold oneI; rw [hc]; exact gI_len hc
theorem rI_next {t : Nat} (hq : qI B Ls p f t = true) (h : (gI B Ls (xI p) (f.items.getD (aT p + t) default)).isSome = true) : rI B Ls p f t ++ [oneI B Ls p f t] = rI B Ls p f (t + 1) ∧ qI B Ls p f (t + 1) = true := by
  obtain ⟨c, hc⟩ := Option.isSome_iff_exists.1 h
  have e := rI_some hq hc
  have e2 : oneI B Ls p f t = c := by unfold oneI; rw [hc]; rfl
  rw [e2]; exact ⟨e.1.symm, e.2⟩
theorem gI_wild (hk : p.kind = 1) (h : isUnd p = true) : gI B Ls p f = some [] ∧ smO p o (gI B Ls p f) = o := by
  have e : gI B Ls p f = some [] := by unfold gI; rw [mt_eq, if_pos hk, if_pos h]
  rw [e]; exact ⟨rfl, List.append_nil o⟩
theorem gI_lit (hk : p.kind = 1) (h : isUnd p = false) (h2 : hasJ Ls p = true) : (gI B Ls p f).isSome = (decide (f.kind = 1) && mng B p f) ∧ smO p o (gI B Ls p f) = o := by
  have e : gI B Ls p f = if f.kind = 1 ∧ mng B p f = true then some [] else none := by unfold gI; rw [mt_eq, if_pos hk, if_neg (by simp [h]), if_pos h2]
  rw [e]
  by_cases hc : f.kind = 1 ∧ mng B p f = true
  · rw [if_pos hc]; exact ⟨by simp [hc.1, hc.2], List.append_nil o⟩
  · rw [if_neg hc]
    refine ⟨?_, by unfold smO flM; simp only; rw [if_neg (by omega)]⟩
    cases h3 : decide (f.kind = 1) <;> cases h4 : mng B p f <;> simp_all
theorem gI_sym (hk : p.kind = 1) (h : isUnd p = false) (h2 : hasJ Ls p = false) : gI B Ls p f = some [capF p f] ∧ smO p o (gI B Ls p f) = o ++ [capF p f] := by
  have e : gI B Ls p f = some [capF p f] := by unfold gI; rw [mt_eq, if_pos hk, if_neg (by simp [h]), if_neg (by simp [h2])]
  rw [e]; exact ⟨rfl, rfl⟩
theorem gI_other (hk : ¬ p.kind = 1) (h0 : ¬ p.kind = 0) : (gI B Ls p f).isSome = (decide (f.kind = p.kind) && decide (f.number = p.number) && decide (f.text = p.text)) ∧ smO p o (gI B Ls p f) = o := by
  have e : gI B Ls p f = if f.kind = p.kind ∧ f.number = p.number ∧ f.text = p.text then some [] else none := by unfold gI; rw [mt_eq, if_neg hk, if_neg h0]
  rw [e]
  by_cases hc : f.kind = p.kind ∧ f.number = p.number ∧ f.text = p.text
  · rw [if_pos hc]; exact ⟨by simp [hc.1, hc.2.1, hc.2.2], List.append_nil o⟩
  · rw [if_neg hc]
    refine ⟨?_, by unfold smO flM; simp only; rw [if_neg h0]⟩
    symm; simp only [Option.isSome]; rw [Bool.eq_false_iff]; simp only [ne_eq, Bool.and_eq_true, decide_eq_true_eq]; rintro ⟨⟨a, b⟩, c⟩; exact hc ⟨a, b, c⟩
end
end Go.Proofs.YtpnaoendfpaodaaGreat
end
section
namespace Go.Proofs.YtpnaoendfpaodaaGreat
open Go Go.Proofs.YtpnaoendfpaodaaGreat.Ab
theorem zw {p : Prop} (h : p := by first | with_reducible rfl | exact True.intro | omega | with_reducible assumption | with_reducible exact dT ‹_› | with_reducible exact dF ‹_› | ((first | refine rowGet ?_ | refine getC ?_ rfl); (first | omega | (simp only [std]; omega) | grind))) : p := h
end Go.Proofs.YtpnaoendfpaodaaGreat
end
section
namespace Go.Proofs.YtpnaoendfpaodaaGreat
open Go Go.Proofs.YtpnaoendfpaodaaGreat.Ab
set_option linter.unusedVariables false
set_option linter.unusedSimpArgs false
theorem one_getF {c : List Capture} {u : Nat} (h : u < c.length) : ((c.take u).map capX ++ (c.drop u).map captureC)[u]? = some (captureF (c.getD u default)) := by
  rw [← Row.eq (C := captureC) (F := captureF)]; exact outTo_get h
theorem one_step {c : List Capture} {u : Nat} (h : u < c.length) : ((c.take u).map capX ++ (c.drop u).map captureC).set u (capX (c.getD u default)) = (c.take (u + 1)).map capX ++ (c.drop (u + 1)).map captureC := outTo_step h
theorem one_len {c : List Capture} {u : Nat} (h : u < c.length) : u < (c.take u).length + (c.drop u).length := by
  rw [List.length_take, List.length_drop]; omega
theorem capM_set (L : List Capture) (u : Nat) (x : Capture) (y : List Cell) (h : captureF x = y) : (L.map captureC).set u y = (L.set u x).map captureC := by
  subst h; rw [List.map_set, Row.eq (C := captureC) (F := captureF)]
theorem snoc_set {α : Type} (l : List α) (z v : α) : (l ++ [z]).set l.length v = l ++ [v] := by
  rw [List.set_append_right _ _ (Nat.le_refl _)]; simp
theorem snoc_cap (E : List Capture) (z : List Cell) (x : Capture) : (E.map captureC ++ [z]).set E.length (captureF x) = (E ++ [x]).map captureC := by
  have := snoc_set (E.map captureC) z (captureF x)
  rw [List.length_map] at this
  rw [this]; exact rowSnoc (C := captureC) E x
theorem each_step {V : List Capture} {R : List (List Capture)} {c : List Capture} {u : Nat} (z : List Cell) (h : u < V.length) :
    ((rpTo V R c u).map captureC).set u [cI ((rpTo V R c u).getD u default).name.kind, cI ((rpTo V R c u).getD u default).name.number, cS ((rpTo V R c u).getD u default).name.text,
      Cell.list (List.map intC ((rpTo V R c u).getD u default).name.scopes), Cell.list (List.map syntaxC ((rpTo V R c u).getD u default).name.items), cI ((rpTo V R c u).getD u default).depth,
      cI ((rpTo V R c u).getD u default).form.kind, cI ((rpTo V R c u).getD u default).form.number, cS ((rpTo V R c u).getD u default).form.text,
      Cell.list (List.map intC ((rpTo V R c u).getD u default).form.scopes), Cell.list (List.map syntaxC ((rpTo V R c u).getD u default).form.items),
      Cell.list ((List.map captureC ((rpTo V R c u).getD u default).each ++ [z]).set ((rpTo V R c u).getD u default).each.length (captureF (c.getD u default)))] = (rpTo V R c (u + 1)).map captureC := by
  rw [snoc_cap]
  have e := capM_set (rpTo V R c u) u ⟨((rpTo V R c u).getD u default).name, ((rpTo V R c u).getD u default).depth, ((rpTo V R c u).getD u default).form, ((rpTo V R c u).getD u default).each ++ [c.getD u default]⟩ _ rfl
  refine Eq.trans e ?_
  rw [rpTo_get h, rpTo_step h]
theorem nmV_each (H : Syntax → Bool) (A : List Syntax → Int) : ∀ (p : Syntax) (d : Int), ∀ y ∈ nm H A p d, y.each = [] := by
  intro p
  refine Syntax.ind (P := fun p => ∀ d, ∀ y ∈ nm H A p d, y.each = []) (fun p ih d y hy => ?_) p
  rw [nm_eq] at hy
  split at hy
  · split at hy
    · cases hy
    · rw [List.mem_singleton] at hy; subst hy; rfl
  · split at hy
    · have go : ∀ (l : List Syntax) (i a e : Int), (∀ x ∈ l, ∀ d, ∀ y ∈ nm H A x d, y.each = []) → ∀ y ∈ nms H A l i a e, y.each = [] := by
        intro l
        induction l with
        | nil => intro i a e _ y hy; simp [nms] at hy
        | cons x r ihr =>
          intro i a e hl y hy
          rw [nms] at hy
          rcases List.mem_append.1 hy with hy | hy
          · revert hy; repeat' split
            all_goals (intro hy; first | cases hy | exact hl x List.mem_cons_self _ y hy)
          · exact ihr _ _ _ (fun z hz => hl z (List.mem_cons_of_mem _ hz)) y hy
      exact go p.items _ _ _ ih y hy
    · cases hy
theorem each_len {V : List Capture} {R : List (List Capture)} {c : List Capture} {u : Nat} (hV : ∀ y ∈ V, y.each = []) (h : u < V.length) : ((rpTo V R c u).getD u default).each.length = R.length := by
  rw [rpTo_get h, rp_get h]
  simp only [List.length_append, List.length_map]
  rw [hV _ (getD_mem' h)]; simp
section
variable {B : List Binding} {Ls : List Syntax} {p f : Syntax} {o : List Capture} {s t u : Nat}
theorem oneS_len (h : (gS B Ls (p.items.getD s default) (f.items.getD (kS B Ls p f o s + t) default)).isSome = true) : (oneS B Ls p f o s t).length = (nS Ls (p.items.getD s default)).length := by
  obtain ⟨c, hc⟩ := Option.isSome_iff_exists.1 h
  unfold oneS; rw [hc]; exact gS_len hc
theorem eachS_end (hq : qS B Ls p f o s t = true) (h : ((gS B Ls (p.items.getD s default) (f.items.getD (kS B Ls p f o s + t) default)).isSome || decide (u = 0)) = true)
    (hc : (gS B Ls (p.items.getD s default) (f.items.getD (kS B Ls p f o s + t) default)).isSome = false ∨ (nS Ls (p.items.getD s default)).length ≤ u) :
    (rpTo (nS Ls (p.items.getD s default)) (rS B Ls p f o s t) (oneS B Ls p f o s t) u).map captureC = (rp (nS Ls (p.items.getD s default)) (rS B Ls p f o s (t + 1))).map captureC := by
  cases hg : gS B Ls (p.items.getD s default) (f.items.getD (kS B Ls p f o s + t) default) with
  | none =>
    rw [hg] at h
    have hu : u = 0 := by simpa using h
    rw [hu, rpTo_zero, (rS_none hq hg).1]
  | some c =>
    rw [hg] at hc
    have hu : (nS Ls (p.items.getD s default)).length ≤ u := by simpa using hc
    have e1 : oneS B Ls p f o s t = c := by unfold oneS; rw [hg]; rfl
    rw [rpTo_all hu, e1, (rS_some hq hg).1]
theorem eachS_len (hu : u < (nS Ls (p.items.getD s default)).length) : ((rpTo (nS Ls (p.items.getD s default)) (rS B Ls p f o s t) (oneS B Ls p f o s t) u).getD u default).each.length = (rS B Ls p f o s t).length :=
  each_len (nmV_each _ _ _ _) hu
end
section
variable {B : List Binding} {Ls : List Syntax} {p f : Syntax} {o : List Capture}
theorem mS_of (ha : 0 ≤ aS p.items) (hm : 0 ≤ (f.items.length : Int) - ((p.items.length : Int) - 2)) : (mS p f : Int) = (f.items.length : Int) - ((p.items.length : Int) - 2) := by
  unfold mS many; rw [if_pos ha]; omega
theorem mS_no (ha : aS p.items < 0) : mS p f = 0 := by
  unfold mS many; rw [if_neg (by omega)]; rfl
theorem fS_a (hk : f.kind = 0) (ha : 0 ≤ aS p.items) (hm : 0 ≤ (f.items.length : Int) - ((p.items.length : Int) - 2)) : fS p f = true := by
  rw [fS_eq]; unfold many; rw [if_pos ha]; simp only [hk, ha, hm, decide_true, Bool.true_or, Bool.and_true]
theorem fS_b (hk : f.kind = 0) (ha : aS p.items < 0) (hm : f.items.length = p.items.length) : fS p f = true := by
  rw [fS_eq]; unfold many; rw [if_neg (by omega)]; simp [hk, hm]
theorem out_of (h0 : p.kind = 0) (h : fS p f = false) : smO p o (gS B Ls p f) = [] ∧ (gS B Ls p f).isSome = false := by
  rw [gS_out h0 h]; exact ⟨smO_list h0, rfl⟩
theorem out_a (h0 : p.kind = 0) (hk : ¬ f.kind = 0) : smO p o (gS B Ls p f) = [] ∧ (gS B Ls p f).isSome = false := by
  refine out_of h0 ?_
  rw [fS_eq]; simp [hk]
theorem out_b (h0 : p.kind = 0) (ha : 0 ≤ aS p.items) (hm : (f.items.length : Int) - ((p.items.length : Int) - 2) < 0) : smO p o (gS B Ls p f) = [] ∧ (gS B Ls p f).isSome = false := by
  refine out_of h0 ?_
  rw [fS_eq]; unfold many; rw [if_pos ha]
  have : ¬ 0 ≤ (f.items.length : Int) - ((p.items.length : Int) - 2) := by omega
  simp only [this, decide_false, Bool.and_false, Bool.false_and]
theorem out_c (h0 : p.kind = 0) (ha : aS p.items < 0) (hm : ¬ f.items.length = p.items.length) : smO p o (gS B Ls p f) = [] ∧ (gS B Ls p f).isSome = false := by
  refine out_of h0 ?_
  rw [fS_eq]
  have : ¬ 0 ≤ aS p.items := by omega
  simp only [this, hm, decide_false, Bool.or_false, Bool.and_false]
theorem out_d (h0 : p.kind = 0) (hf : fS p f = true) (hb : bS B Ls p f o p.items.length = true) : smO p o (gS B Ls p f) = oS B Ls p f o p.items.length ∧ (gS B Ls p f).isSome = true := by
  have h := @sM_end B Ls p f o h0 hf
  rw [if_pos hb] at h; exact ⟨h.2, h.1.trans hb⟩
theorem out_e (h0 : p.kind = 0) (hf : fS p f = true) (hb : bS B Ls p f o p.items.length = false) : smO p o (gS B Ls p f) = [] ∧ (gS B Ls p f).isSome = false := by
  have h := @sM_end B Ls p f o h0 hf
  rw [if_neg (by rw [hb]; simp)] at h; exact ⟨h.2, h.1.trans hb⟩
end
section
variable {B : List Binding} {Ls : List Syntax} {p f : Syntax} {t u : Nat}
theorem eachI_end (hq : qI B Ls p f t = true) (h : (gI B Ls (xI p) (f.items.getD (aT p + t) default)).isSome = true) (hc : (nI Ls (xI p)).length ≤ u) :
    (rpTo (nI Ls (xI p)) (rI B Ls p f t) (oneI B Ls p f t) u).map captureC = (rp (nI Ls (xI p)) (rI B Ls p f (t + 1))).map captureC := by
  rw [rpTo_all hc, (rI_next hq h).1]
theorem eachI_len (hu : u < (nI Ls (xI p)).length) : ((rpTo (nI Ls (xI p)) (rI B Ls p f t) (oneI B Ls p f t) u).getD u default).each.length = (rI B Ls p f t).length :=
  each_len (nmV_each _ _ _ _) hu
end
def atB (p : Syntax) (s : Nat) : Bool := decide (s < p.items.length) && decide ((s : Int) + 1 = aS p.items)
theorem atB_of {p : Syntax} {s : Nat} (h : atB p s = true) : s < p.items.length ∧ (s : Int) + 1 = aS p.items := by
  simpa [atB] using h
theorem atB_mk {p : Syntax} {s : Nat} (h : s < p.items.length) (h2 : (s : Int) + 1 = aS p.items) : atB p s = true := by
  simp [atB, h, h2]
theorem eV_def (Ls : List Syntax) (x : Syntax) : (vrS Ls x 0 []).getD [] = eV Ls x := rfl
theorem aS_def (l : List Syntax) : (if okS l = true then atS l else (-1 : Int)) = aS l := rfl
theorem nm_depth (H : Syntax → Bool) (A : List Syntax → Int) : ∀ (p : Syntax) (d : Int), ∀ y ∈ nm H A p d, d ≤ y.depth ∧ y.depth ≤ d + depY p := by
  intro p
  refine Syntax.ind (P := fun p => ∀ d, ∀ y ∈ nm H A p d, d ≤ y.depth ∧ y.depth ≤ d + depY p) (fun p ih d y hy => ?_) p
  rw [nm_eq] at hy
  split at hy
  · split at hy
    · cases hy
    · rw [List.mem_singleton] at hy; subst hy
      have : (cap1 p d).depth = d := rfl
      omega
  · split at hy
    · have go : ∀ (l : List Syntax) (i a e : Int) (n : Nat), (∀ x ∈ l, depY x + 1 ≤ n ∧ ∀ d, ∀ y ∈ nm H A x d, d ≤ y.depth ∧ y.depth ≤ d + depY x) → ∀ y ∈ nms H A l i a e, e ≤ y.depth ∧ y.depth ≤ e + n := by
        intro l
        induction l with
        | nil => intro i a e n _ y hy; simp [nms] at hy
        | cons x r ihr =>
          intro i a e n hl y hy
          rw [nms] at hy
          have hx := hl x List.mem_cons_self
          rcases List.mem_append.1 hy with hy | hy
          · revert hy; repeat' split
            all_goals (intro hy; first | cases hy | (have := hx.2 _ y hy; omega))
          · exact ihr _ _ _ n (fun z hz => hl z (List.mem_cons_of_mem _ hz)) y hy
      refine go p.items _ _ _ _ (fun x hx => ⟨?_, ih x hx⟩) y hy
      obtain ⟨k, hk, e⟩ := mem_getD hx
      rw [← e]; exact depY_item hk
    · cases hy
section
variable {B : List Binding} {Ls : List Syntax} {p f : Syntax} {o : List Capture} {s t u k1 : Nat}
theorem item_ok {x : Syntax} (h : s < x.items.length) : wY (x.items.getD s default) ≤ wY x ∧ sizeY (x.items.getD s default) ≤ sizeY x ∧ depY (x.items.getD s default) ≤ depY x ∧ x.items.length ≤ wY x ∧ x.items.getD s default ∈ x.items := by
  have h1 := size_item h
  have h2 := depY_item h
  have h3 := wY_eq x
  exact ⟨h1.2, by omega, by omega, by omega, getD_mem' h⟩
theorem len_w (x : Syntax) : x.items.length ≤ wY x := by have := wY_eq x; omega
theorem rep_good (hg : good Ls p) (h0 : p.kind = 0) (h : atB p s = true) : good Ls (p.items.getD s default) := by
  have h := atB_of h
  have h1 := good_rep hg h0 h.1 h.2
  exact ⟨okY_item hg.1 _ (getD_mem' h.1), 0, [], _, Int.le_refl _, h1.1⟩
theorem eV_nm (hg : good Ls p) (h0 : p.kind = 0) (h : atB p s = true) : eV Ls (p.items.getD s default) = nm (hasI Ls) aS (p.items.getD s default) 0 := by
  have h := atB_of h
  unfold eV; rw [(good_rep hg h0 h.1 h.2).1]; rfl
theorem eV_size (hg : good Ls p) (h0 : p.kind = 0) (h : atB p s = true) : (eV Ls (p.items.getD s default)).length ≤ sizeY p := by
  have h1 := atB_of h
  rw [eV_nm hg h0 h]
  have h2 := nm_size (hasI Ls) aS (p.items.getD s default) 0
  have h3 := item_ok h1.1
  omega
theorem eV_depth (hg : good Ls p) (h0 : p.kind = 0) (h : atB p s = true) (hd : depY p ≤ 40) (hu : u < (eV Ls (p.items.getD s default)).length) : 0 ≤ ((upTo (eV Ls (p.items.getD s default)) u).getD u default).depth ∧ ((upTo (eV Ls (p.items.getD s default)) u).getD u default).depth ≤ 40 := by
  have h1 := atB_of h
  have h3 := item_ok h1.1
  rw [upTo_get hu]
  have hm := getD_mem' hu
  rw [eV_nm hg h0 h] at hm ⊢
  have := nm_depth (hasI Ls) aS (p.items.getD s default) 0 _ hm
  omega
theorem up_step {V : List Capture} (h : u < V.length) :
    ((upTo V u).map captureC).set u [cI ((upTo V u).getD u default).name.kind, cI ((upTo V u).getD u default).name.number, cS ((upTo V u).getD u default).name.text,
      Cell.list (List.map intC ((upTo V u).getD u default).name.scopes), Cell.list (List.map syntaxC ((upTo V u).getD u default).name.items), cI (((upTo V u).getD u default).depth + 1),
      cI ((upTo V u).getD u default).form.kind, cI ((upTo V u).getD u default).form.number, cS ((upTo V u).getD u default).form.text,
      Cell.list (List.map intC ((upTo V u).getD u default).form.scopes), Cell.list (List.map syntaxC ((upTo V u).getD u default).form.items),
      Cell.list (List.map captureC ((upTo V u).getD u default).each)] = (upTo V (u + 1)).map captureC := by
  have e := capM_set (upTo V u) u (upC ((upTo V u).getD u default)) _ rfl
  refine Eq.trans e ?_
  rw [upTo_get h, upTo_step h]
theorem up_end (hg : good Ls p) (h0 : p.kind = 0) (h : atB p s = true) (hu : (eV Ls (p.items.getD s default)).length ≤ u) : (upTo (eV Ls (p.items.getD s default)) u).map captureC = (nS Ls (p.items.getD s default)).map captureC := by
  have h1 := atB_of h
  rw [upTo_all hu, (eV_of hg h0 h1.1 h1.2).1]
theorem one_zero : (smO (p.items.getD s default) [] (gS B Ls (p.items.getD s default) (f.items.getD (kS B Ls p f o s + t) default))).map captureC = ((oneS B Ls p f o s t).take 0).map capX ++ (oneS B Ls p f o s t).map captureC := by
  rw [smO_nil]; rfl
theorem q_next (hq : qS B Ls p f o s t = true) : (gS B Ls (p.items.getD s default) (f.items.getD (kS B Ls p f o s + t) default)).isSome = qS B Ls p f o s (t + 1) := by
  cases e : gS B Ls (p.items.getD s default) (f.items.getD (kS B Ls p f o s + t) default) with
  | none => rw [(rS_none hq e).2]; rfl
  | some c => rw [(rS_some hq e).2]; rfl
theorem q_or (hq : qS B Ls p f o s t = true) : (qS B Ls p f o s (t + 1) || decide (t + 1 = (rS B Ls p f o s (t + 1)).length + 1)) = true := by
  cases e : gS B Ls (p.items.getD s default) (f.items.getD (kS B Ls p f o s + t) default) with
  | none => rw [(rS_none hq e).1, rS_len hq]; simp
  | some c => rw [(rS_some hq e).2]; rfl
end
section
variable {B : List Binding} {Ls : List Syntax} {p f : Syntax}
theorem und_no (h : ¬ p.text.data.toList = [95]) : isUnd p = false := decide_eq_false h
theorem sm_lit1 (hk : p.kind = 1) (hu : ¬ p.text.data.toList = [95]) (hl : hasI Ls p = true) (hf : f.kind = 1) : mng B p f = (gS B Ls p f).isSome := by
  rw [(gS_lit (o := []) hk (und_no hu) hl).1]; simp [hf]
theorem sm_lit2 (hk : p.kind = 1) (hu : ¬ p.text.data.toList = [95]) (hl : hasI Ls p = true) (hf : ¬ f.kind = 1) : false = (gS B Ls p f).isSome := by
  rw [(gS_lit (o := []) hk (und_no hu) hl).1]; simp [hf]
theorem sm_sym (hk : p.kind = 1) (hu : ¬ p.text.data.toList = [95]) (hl : hasI Ls p = false) : true = (gS B Ls p f).isSome := by
  rw [(gS_sym (o := []) hk (und_no hu) hl).1]; rfl
theorem text_eq {a b : ByteArray} : b = a ↔ a.data.toList = b.data.toList :=
  ⟨fun h => by rw [h], fun h => by cases a; cases b; congr 1; exact (Array.toList_inj.1 h).symm⟩
theorem sm_o1 (h1 : ¬ p.kind = 1) (h0 : ¬ p.kind = 0) (hk : p.kind = f.kind) (hn : p.number = f.number) : decide (p.text.data.toList = f.text.data.toList) = (gS B Ls p f).isSome := by
  rw [(gS_other (o := []) h1 h0).1]; simp [hk, hn, text_eq]
theorem sm_o2 (h1 : ¬ p.kind = 1) (h0 : ¬ p.kind = 0) (hk : p.kind = f.kind) (hn : ¬ p.number = f.number) : false = (gS B Ls p f).isSome := by
  rw [(gS_other (o := []) h1 h0).1]; simp [hk.symm, show ¬ f.number = p.number from fun h => hn h.symm]
theorem sm_o3 (h1 : ¬ p.kind = 1) (h0 : ¬ p.kind = 0) (hk : ¬ p.kind = f.kind) : false = (gS B Ls p f).isSome := by
  rw [(gS_other (o := []) h1 h0).1]; simp [show ¬ f.kind = p.kind from fun h => hk h.symm]
end
section
variable {B : List Binding} {Ls : List Syntax} {p f : Syntax} {o : List Capture} {k : Nat}
theorem not_f {b : Bool} (h : (!b) = false) : b = true := by simpa using h
theorem not_t {b : Bool} (h : (!b) = true) : b = false := by simpa using h
theorem xI_def (p : Syntax) : p.items.getD (atI p.items - 1).toNat default = xI p := rfl
theorem pre_len (h : fI p f = true) : (List.take (atI p.items - 1).toNat p.items).length = aT p := by
  have := fI_nums h
  have e : (atI p.items - 1).toNat = aT p := rfl
  rw [e, List.length_take]; omega
theorem post_nat (h : fI p f = true) : (atI p.items + 1).toNat = aT p + 2 := by
  have := fI_nums h; omega
theorem take_drop_len {α : Type} (L : List α) (n : Nat) : List.take (L.length - n) (List.drop n L) = List.drop n L := by
  apply List.take_of_length_le; rw [List.length_drop]; exact Nat.le_refl _
theorem post_len (h : fI p f = true) : ((List.take (p.items.length - (atI p.items + 1).toNat) (List.drop (atI p.items + 1).toNat p.items)).length : Int) = p.items.length - (aT p + 2) := by
  have := fI_nums h
  rw [take_drop_len, List.length_drop]; omega
theorem round_none (h : fI p f = true) (hk : k < mI2 p f) (hq : qI B Ls p f k = true) (hn : (gI B Ls (xI p) (f.items.getD (aT p + k) default)).isSome = false) : (gI B Ls p f).isSome = false := by
  cases e : gI B Ls (xI p) (f.items.getD (aT p + k) default) with
  | none => rw [fI_round h hk (rI_none hq e)]; rfl
  | some c => rw [e] at hn; cases hn
theorem oneI_zero : (smO (xI p) [] (gI B Ls (xI p) (f.items.getD (aT p + k) default))).map captureC = ((oneI B Ls p f k).take 0).map capX ++ (oneI B Ls p f k).map captureC := by
  rw [smO_nil]; rfl
theorem rI_end (h : k = mI2 p f) : (rp (nI Ls (xI p)) (rI B Ls p f k)).map captureC = (rp (nI Ls (xI p)) (rI B Ls p f (mI2 p f))).map captureC := by rw [h]
theorem qI_end (h : k = mI2 p f) (hq : qI B Ls p f k = true) : qI B Ls p f (mI2 p f) = true := by rw [← h]; exact hq
end
section
variable {B : List Binding} {Ls : List Syntax} {p f : Syntax} {o : List Capture}
theorem xI_def2 (p : Syntax) : p.items.getD (aT p) default = xI p := rfl
theorem aT_def (p : Syntax) : (atI p.items - 1).toNat = aT p := rfl
theorem cnt_of (hg : good Ls p) (h0 : p.kind = 0) (ha : ¬ atI p.items < 0) : ((f.items.length : Int) - ((List.take (atI p.items - 1).toNat p.items).length : Nat) - ((List.take (p.items.length - (atI p.items + 1).toNat) (List.drop (atI p.items + 1).toNat p.items)).length : Nat)) = (f.items.length : Int) - ((p.items.length : Int) - 2) := by
  have h := (atI_of hg h0).2
  rw [take_drop_len, List.length_drop, List.length_take]; omega
theorem fI_mk (hg : good Ls p) (h0 : ¬¬p.kind = 0) (hf : ¬¬f.kind = 0) (ha : ¬ atI p.items < 0) (hc : ¬ ((f.items.length : Int) - ((List.take (atI p.items - 1).toNat p.items).length : Nat) - ((List.take (p.items.length - (atI p.items + 1).toNat) (List.drop (atI p.items + 1).toNat p.items)).length : Nat)) < 0) : fI p f = true := by
  have h0 := Decidable.not_not.1 h0
  have := cnt_of (f := f) hg h0 ha
  exact fI_of h0 (Decidable.not_not.1 hf) (by omega) hg (by omega)
theorem few_of (hg : good Ls p) (h0 : ¬¬p.kind = 0) (hf : ¬¬f.kind = 0) (ha : ¬ atI p.items < 0) (hc : ((f.items.length : Int) - ((List.take (atI p.items - 1).toNat p.items).length : Nat) - ((List.take (p.items.length - (atI p.items + 1).toNat) (List.drop (atI p.items + 1).toNat p.items)).length : Nat)) < 0) : [] = (smO p o (gI B Ls p f)).map captureC ∧ false = (gI B Ls p f).isSome := by
  have h0 := Decidable.not_not.1 h0
  have := cnt_of (f := f) hg h0 ha
  rw [fI_few h0 (Decidable.not_not.1 hf) (by omega) (by omega), smO_list h0]; exact ⟨rfl, rfl⟩
theorem kind_of (h0 : ¬¬p.kind = 0) (hf : ¬f.kind = 0) : [] = (smO p o (gI B Ls p f)).map captureC ∧ false = (gI B Ls p f).isSome := by
  have h0 := Decidable.not_not.1 h0
  rw [gI_kind h0 hf, smO_list h0]; exact ⟨rfl, rfl⟩
theorem flat_no (h0 : ¬¬p.kind = 0) (hf : ¬¬f.kind = 0) (ha : atI p.items < 0) (hl : ¬ (p.items.length : Int) = (f.items.length : Int)) : [] = (smO p o (gI B Ls p f)).map captureC ∧ false = (gI B Ls p f).isSome := by
  have h0 := Decidable.not_not.1 h0
  rw [gI_flatN h0 (Decidable.not_not.1 hf) ha (by omega), smO_list h0]; exact ⟨rfl, rfl⟩
theorem pre_no (hf : fI p f = true) (h : (!(alM (gI B Ls) (List.take (aT p) p.items) (List.take (aT p) f.items)).isSome) = true) : [] = (smO p o (gI B Ls p f)).map captureC ∧ false = (gI B Ls p f).isSome := by
  rw [fI_pre hf (not_t h), smO_list (fI_at hf).1]; exact ⟨rfl, rfl⟩
theorem some_no (h0 : ¬¬p.kind = 0) (h : (gI B Ls p f).isSome = false) : [] = (smO p o (gI B Ls p f)).map captureC ∧ false = (gI B Ls p f).isSome := by
  have h0 := Decidable.not_not.1 h0
  cases e : gI B Ls p f with
  | none => rw [smO_list h0]; exact ⟨rfl, rfl⟩
  | some c => rw [e] at h; cases h
theorem all_do (hf : fI p f = true) (h : (!(alM (gI B Ls) (List.take (aT p) p.items) (List.take (aT p) f.items)).isSome) = false) (hq : qI B Ls p f (mI2 p f) = true) :
    (alO (alO o (alM (gI B Ls) (List.take (aT p) p.items) (List.take (aT p) f.items)) ++ rp (nI Ls (xI p)) (rI B Ls p f (mI2 p f))) (alM (gI B Ls) (List.drop (aT p + 2) p.items) (List.drop (aT p + mI2 p f) f.items))).map captureC = (smO p o (gI B Ls p f)).map captureC ∧
    (alM (gI B Ls) (List.drop (aT p + 2) p.items) (List.drop (aT p + mI2 p f) f.items)).isSome = (gI B Ls p f).isSome := by
  have h1 := @fI_done B Ls p f o hf (not_f h) hq
  rw [h1.2]; exact ⟨rfl, h1.1.symm⟩
theorem vr_start (hl : Ls.all litP = true) (hg : good Ls p) (hf : fI p f = true) : ((vrI Ls (xI p) 1 []).getD []).map captureC = (rp (nI Ls (xI p)) (rI B Ls p f 0)).map captureC := by
  rw [fI_nI hl hg hf]
  have e : rI B Ls p f 0 = [] := rfl
  rw [e, rp_nil]; rfl
theorem pre_len' (hf : fI p f = true) : (List.take (aT p) p.items).length = aT p := pre_len hf
theorem cnt_eq (hf : fI p f = true) : ((f.items.length : Int) - (aT p : Nat) - ((List.drop (aT p + 2) p.items).length : Nat)) = (mI2 p f : Nat) := by
  have := fI_nums hf
  rw [List.length_drop]; omega
theorem add_nat (a b : Nat) : ((a : Int) + (b : Int)).toNat = a + b := by omega
theorem sumf (f : Syntax) (n : Nat) : sumBy wY (List.take n f.items) ≤ wY f ∧ sumBy wY (List.drop n f.items) ≤ wY f := by
  have h1 := sumBy_takeLe wY f.items n
  have h2 := sumBy_dropLe wY f.items n
  have h3 := wY_eq f
  omega
theorem iI_o1 (h1 : ¬p.kind = 1) (h0 : ¬p.kind = 0) (hk : f.kind = p.kind) (hn : f.number = p.number) : decide (f.text.data.toList = p.text.data.toList) = (gI B Ls p f).isSome := by
  rw [(gI_other (o := []) h1 h0).1]
  have : (f.text = p.text) ↔ f.text.data.toList = p.text.data.toList := by rw [text_eq]; exact eq_comm
  simp [hk, hn, this]
end
end Go.Proofs.YtpnaoendfpaodaaGreat
end
section
namespace Go.Proofs.YtpnaoendfpaodaaGreat
open Go Go.Proofs.YtpnaoendfpaodaaGreat.Ab
set_option linter.unusedVariables false
set_option linter.unusedSimpArgs false
set_option maxHeartbeats 4000000
abbrev P_c_sMatL (B : List Binding) (Ls : List Syntax) (p : Syntax) (f : Syntax) (o : List Capture) : Ct := ⟨185, [.arr true 12 (o.map captureC)], [ll (B.map bindingC), ll (Ls.map syntaxC), ll (p.items.map syntaxC), syntaxA f, .one (.ref 0)], [.dead, .arr true 12 ((smO p o (gS B Ls p f)).map captureC)], .tup [.one (.ref 1), lb (gS B Ls p f).isSome]⟩
abbrev P_c_sMat (B : List Binding) (Ls : List Syntax) (p : Syntax) (f : Syntax) (o : List Capture) : Ct := ⟨106, [.arr true 12 (o.map captureC)], [ll (B.map bindingC), ll (Ls.map syntaxC), syntaxA p, syntaxA f, .one (.ref 0)], [.dead, .arr true 12 ((smO p o (gS B Ls p f)).map captureC)], .tup [.one (.ref 1), lb (gS B Ls p f).isSome]⟩
def lc_sMatLLd (B : List Binding) (Ls : List Syntax) (p : Syntax) (f : Syntax) (o : List Capture) (k : Nat) (k1 : Nat) : Lp Nat := .mk 174 1 (fun x => [(0, ll (List.map bindingC
 B)), (1, ll (List.map syntaxC Ls)), (2, ll (List.map syntaxC p.items)), (4, SV.one (AC.ref 1)), (8, SV.one (AC.ptr 2 0)), (12, li (if okS p.items = true then atS p.items else (-1
 : Int))), (14, li (↑(List.map syntaxC p.items).length : Int)), (15, li (↑(mS p f) : Int)), (16, lb (gS B Ls (p.items.getD k default) (f.items.getD (kS B Ls p f o k + k1)
 default)).isSome), (17, li ((↑(kS B Ls p f o k) : Int) + (↑k1 : Int) + 1)), (18, li (↑k : Int)), (19, SV.one (AC.ref 3)), (22, li (↑k1 : Int)), (23, SV.one (AC.ref 4)), (24, hs x
 0)]) (fun x => [Ob.dead, Ob.arr true 12 (List.map captureC (oS B Ls p f o k)), Ob.box (vals (syntaxF f)), ho x 1, ho x 2]) (fun k2 => [.s (li (↑k2 : Int)), .o (Ob.arr true 12
 (List.map captureC (rpTo (nS Ls (p.items.getD k default)) (rS B Ls p f o k k1) (oneS B Ls p f o k k1) k2))), .o (Ob.arr true 12 (List.map capX (List.take k2 (oneS B Ls p f o k
 k1)) ++ List.map captureC (List.drop k2 (oneS B Ls p f o k k1))))]) (fun k2 => k2 ≤ (nS Ls (p.items.getD k default)).length ∧ (nS Ls (p.items.getD k default)).length ≤
 9223372036854775807 ∧ ((gS B Ls (p.items.getD k default) (f.items.getD (kS B Ls p f o k + k1) default)).isSome || decide (k2 = 0)) = true ∧ qS B Ls p f o k k1 = true ∧ (rS B Ls p
 f o k k1).length ≤ 1000000000) (fun k2 => (nS Ls (p.items.getD k default)).length - k2) [.mk True (.exit 6) (fun x => [(0, ll (List.map bindingC B)), (1, ll (List.map syntaxC
 Ls)), (2, ll (List.map syntaxC p.items)), (4, SV.one (AC.ref 1)), (8, SV.one (AC.ptr 2 0)), (12, li (if okS p.items = true then atS p.items else (-1 : Int))), (14, li (↑(List.map
 syntaxC p.items).length : Int)), (15, li (↑(mS p f) : Int)), (16, lb (gS B Ls (p.items.getD k default) (f.items.getD (kS B Ls p f o k + k1) default)).isSome), (17, li ((↑(kS B Ls
 p f o k) : Int) + (↑k1 : Int) + 1)), (18, li (↑k : Int)), (19, SV.one (AC.ref 3)), (22, li (↑k1 : Int))]) (fun x => [Ob.dead, Ob.arr true 12 (List.map captureC (oS B Ls p f o k)),
 Ob.box (vals (syntaxF f)), ho x 0]) [.o (Ob.arr true 12 (List.map captureC (rp (nS Ls (p.items.getD k default)) (rS B Ls p f o k (k1 + 1)))))]]
def lc_sMatLLc (B : List Binding) (Ls : List Syntax) (p : Syntax) (f : Syntax) (o : List Capture) (k : Nat) : Lp Nat := .mk 174 1 (fun x => [(0, ll (List.map bindingC B)), (1, ll
 (List.map syntaxC Ls)), (2, ll (List.map syntaxC p.items)), (4, SV.one (AC.ref 1)), (8, SV.one (AC.ptr 2 0)), (12, li (if okS p.items = true then atS p.items else (-1 : Int))),
 (14, li (↑(List.map syntaxC p.items).length : Int)), (15, li (↑(mS p f) : Int)), (16, hs x 2), (17, hs x 1), (18, li (↑k : Int)), (19, SV.one (AC.ref 3)), (22, hs x 0)]) (fun x =>
 [Ob.dead, Ob.arr true 12 (List.map captureC (oS B Ls p f o k)), Ob.box (vals (syntaxF f)), ho x 3]) (fun k1 => [.s (li (↑k1 : Int)), .s (li ((↑(kS B Ls p f o k) : Int) + (↑k1 :
 Int))), .s (lb (qS B Ls p f o k k1)), .o (Ob.arr true 12 (List.map captureC (rp (nS Ls (p.items.getD k default)) (rS B Ls p f o k k1))))]) (fun k1 => k1 ≤ mS p f ∧ kS B Ls p f o k
 + mS p f ≤ f.items.length ∧ (qS B Ls p f o k k1 || decide (k1 = (rS B Ls p f o k k1).length + 1)) = true ∧ atB p k = true ∧ wY p ≤ 1048576 ∧ sizeY p ≤ 2147483647 ∧ depY p ≤ 40 ∧
 wY f ≤ 1000000000) (fun k1 => mS p f - k1) [.mk True (.exit 4) (fun x => [(0, ll (List.map bindingC B)), (1, ll (List.map syntaxC Ls)), (2, ll (List.map syntaxC p.items)), (4,
 SV.one (AC.ref 1)), (8, SV.one (AC.ptr 2 0)), (12, li (if okS p.items = true then atS p.items else (-1 : Int))), (14, li (↑(List.map syntaxC p.items).length : Int)), (15, li (↑(mS
 p f) : Int)), (16, hs x 1), (17, hs x 0), (18, li (↑k : Int)), (19, SV.one (AC.ref 3))]) (fun x => [Ob.dead, Ob.arr true 12 (List.map captureC (oS B Ls p f o k)), Ob.box (vals
 (syntaxF f)), ho x 2]) [.s (li ((↑(kS B Ls p f o k) : Int) + (↑(if qS B Ls p f o k (mS p f) = true then mS p f else (rS B Ls p f o k (mS p f)).length + 1) : Int))), .s (lb (qS B
 Ls p f o k (mS p f))), .o (Ob.arr true 12 (List.map captureC (rp (nS Ls (p.items.getD k default)) (rS B Ls p f o k (mS p f)))))]]
def lc_sMatLLb (B : List Binding) (Ls : List Syntax) (p : Syntax) (f : Syntax) (o : List Capture) (k : Nat) : Lp Nat := .mk 174 1 (fun x => [(0, ll (List.map bindingC B)), (1, ll
 (List.map syntaxC Ls)), (2, ll (List.map syntaxC p.items)), (4, SV.one (AC.ref 1)), (8, SV.one (AC.ptr 2 0)), (12, li (if okS p.items = true then atS p.items else (-1 : Int))),
 (14, li (↑(List.map syntaxC p.items).length : Int)), (15, li (↑(mS p f) : Int)), (16, lb (bS B Ls p f o k)), (17, li (↑(kS B Ls p f o k) : Int)), (18, li (↑k : Int)), (19, SV.one
 (AC.ref 3)), (102, li (↑(List.map captureC ((vrS Ls (p.items.getD k default) 0 []).getD [])).length : Int)), (103, hs x 0)]) (fun x => [Ob.dead, Ob.arr true 12 (List.map captureC
 (oS B Ls p f o k)), Ob.box (vals (syntaxF f)), ho x 1]) (fun k1 => [.s (li (↑k1 : Int)), .o (Ob.arr true 12 (List.map captureC (upTo (eV Ls (p.items.getD k default)) k1)))]) (fun
 k1 => k1 ≤ (eV Ls (p.items.getD k default)).length ∧ (eV Ls (p.items.getD k default)).length ≤ 1000000000 ∧ atB p k = true ∧ depY p ≤ 40) (fun k1 => (eV Ls (p.items.getD k
 default)).length - k1) [.mk True (.exit 2) (fun x => [(0, ll (List.map bindingC B)), (1, ll (List.map syntaxC Ls)), (2, ll (List.map syntaxC p.items)), (4, SV.one (AC.ref 1)), (8,
 SV.one (AC.ptr 2 0)), (12, li (if okS p.items = true then atS p.items else (-1 : Int))), (14, li (↑(List.map syntaxC p.items).length : Int)), (15, li (↑(mS p f) : Int)), (16, lb
 (bS B Ls p f o k)), (17, li (↑(kS B Ls p f o k) : Int)), (18, li (↑k : Int)), (19, SV.one (AC.ref 3))]) (fun x => [Ob.dead, Ob.arr true 12 (List.map captureC (oS B Ls p f o k)),
 Ob.box (vals (syntaxF f)), ho x 0]) [.o (Ob.arr true 12 (List.map captureC (nS Ls (p.items.getD k default))))]]
def lc_sMatLLa (B : List Binding) (Ls : List Syntax) (p : Syntax) (f : Syntax) (o : List Capture) : Lp Nat := .mk 174 1 (fun x => [(0, ll (List.map bindingC B)), (1, ll (List.map
 syntaxC Ls)), (2, ll (List.map syntaxC p.items)), (4, SV.one (AC.ref 1)), (8, SV.one (AC.ptr 2 0)), (12, li (if okS p.items = true then atS p.items else (-1 : Int))), (14, li
 (↑(List.map syntaxC p.items).length : Int)), (15, hs x 1), (16, hs x 3), (17, hs x 2), (18, hs x 0)]) (fun x => [Ob.dead, ho x 4, Ob.box (vals (syntaxF f))]) (fun k => [.s (li (↑k
 : Int)), .s (li (↑(mS p f) : Int)), .s (li (↑(kS B Ls p f o k) : Int)), .s (lb (bS B Ls p f o k)), .o (Ob.arr true 12 (List.map captureC (oS B Ls p f o k)))]) (fun k => k ≤
 p.items.length ∧ p.items.length ≤ 9223372036854775807 ∧ fS p f = true) (fun k => p.items.length - k) [.mk True (.exit 0) (fun x => [(4, SV.one (AC.ref 1)), (16, hs x 0)]) (fun x
 => [Ob.dead, ho x 1]) [.s (lb (bS B Ls p f o p.items.length)), .o (Ob.arr true 12 (List.map captureC (oS B Ls p f o p.items.length)))]]
theorem Sc_sMatLLd (B : List Binding) (Ls : List Syntax) (p : Syntax) (f : Syntax) (o : List Capture) (h : B.length ≤ 1048577 ∧ sumBy wB B ≤ 1048577 ∧ wY p ≤ 1048576 ∧ wY f ≤
 1000000000 ∧ o.length + sizeY p ≤ 2147483647 ∧ depY p ≤ 40) (hg : good Ls p ∧ p.kind = 0) (ih : ∀ (z : Syntax), z ∈ p.items → ∀ (B : List Binding) (Ls : List Syntax) (f : Syntax)
 (o : List Capture), B.length ≤ 1048577 ∧ sumBy wB B ≤ 1048577 ∧ wY z ≤ 1048576 ∧ wY f ≤ 1000000000 ∧ o.length + sizeY z ≤ 2147483647 ∧ depY z ≤ 40 → good Ls z → OK (P_c_sMat B Ls
 z f o)) (k : Nat) (k1 : Nat) : Lp.Sem Tryz.prog (loopAt Tryz.f185 3) (lc_sMatLLd B Ls p f o k k1) := lpOK (fun k2 => let v9 := (rpTo (nS Ls (p.items.getD k default)) (rS B Ls p f
 o k k1) (oneS B Ls p f o k k1) k2); let v1 := (v9.getD (↑k2 : Int).toNat default); let v2 := [cI 0, cI 0, cS (ByteArray.mk #[]), Cell.list [], Cell.list [], cI 0, cI 0, cI 0, cS
 (ByteArray.mk #[]), Cell.list [], Cell.list [], Cell.list []]; let v3 := (List.map captureC v9); let v4 := ((oneS B Ls p f o k k1).getD k2 default); let v5 := (List.map capX
 (List.take k2 (oneS B Ls p f o k k1)) ++ List.map captureC (List.drop k2 (oneS B Ls p f o k k1))); let v6 := [(↑k2 : Int).toNat, (↑k2 : Int).toNat, (↑k2 : Int).toNat, (↑k2 :
 Int).toNat, (↑k2 : Int).toNat]; let v7 := [cI v1.name.kind, cI v1.name.number, cS v1.name.text, Cell.list (List.map intC v1.name.scopes), Cell.list (List.map syntaxC
 v1.name.items), cI v1.depth, cI v1.form.kind, cI v1.form.number, cS v1.form.text, Cell.list (List.map intC v1.form.scopes), Cell.list (List.map syntaxC v1.form.items), Cell.any];
 let v11 := (List.map captureC v1.each ++ [v2]); let v10 := (↑(List.map captureC v1.each).length : Int); let v8 := [cI v1.name.kind, cI v1.name.number, cS v1.name.text, Cell.list
 (List.map intC v1.name.scopes), Cell.list (List.map syntaxC v1.name.items), cI v1.depth, cI v1.form.kind, cI v1.form.number, cS v1.form.text, Cell.list (List.map intC
 v1.form.scopes), Cell.list (List.map syntaxC v1.form.items), Cell.list (v11.set v10.toNat (captureF v4))]; .z captureC v9 (.i ((↑k2 : Int) < (↑(List.map captureC v9).length :
 Int)) (.b (gS B Ls (p.items.getD k default) (f.items.getD (kS B Ls p f o k + k1) default)).isSome (.w (.drawT 13 16 12 [(11, [3, 5]), (13, [4, 7]), (16, [7, 3])]) (.p (0 ≤ (↑k2 :
 Int) ∧ (↑k2 : Int).toNat < v3.length) (.w .sub (.p ((↑k2 : Int).toNat < v3.length) (.p (0 ≤ (↑k2 : Int) ∧ (↑k2 : Int).toNat < v5.length) (.w (.subs (captureF v4)) (.p (v5[(↑k2 :
 Int).toNat]? = some (captureF v4)) (.w (.cells (captureF v1)) (.p (v3[(↑k2 : Int).toNat]? = some (captureF v1)) (.w (.subcall (captureF v1) (List.map captureC v1.each) 12) (.p
 (v3[(↑k2 : Int).toNat]? = some (captureF v1)) (.p (some (Cell.list (List.map captureC v1.each)) = some (Cell.list (List.map captureC v1.each))) (.p (∀ (x : List Cell), x ∈
 List.map captureC v1.each → x.length = 12) (.p (((List.map captureC v1.each).length + 1) * 192 ≤ 140737488355328) (.p (0 ≤ v10 ∧ v10.toNat < v11.length) (.w (.subs (captureF v4))
 (.w (.cells v2) (.p (v6 = v6) (.p (v5[(↑k2 : Int).toNat]? = some (captureF v4)) (.p (v11[v10.toNat]? = some v2) (.p (0 ≤ (↑k2 : Int) ∧ (↑k2 : Int).toNat < (v3.set (↑k2 :
 Int).toNat v7).length) (.w (.take v7 (v3.set (↑k2 : Int).toNat v8) 0) (.p ((v3.set (↑k2 : Int).toNat v7)[(↑k2 : Int).toNat]? = some v7) (.p ((v3.set (↑k2 : Int).toNat v7).set (↑k2
 : Int).toNat v8 = v3.set (↑k2 : Int).toNat v8) (.p (v10.toNat < v11.length) (.p ((↑k2 : Int).toNat < (v3.set (↑k2 : Int).toNat v7).length) (.z captureC v1.each (.r ((↑k2 : Int) +
 1) (.g [0, 1, 2, 3, 4] (k2 + 1) [.s (li ((↑k2 : Int) + 1)), .o (Ob.arr true 12 (v3.set (↑k2 : Int).toNat v8)), .o (Ob.arr true 12 (v5.set (↑k2 : Int).toNat [cI v4.name.kind, cI
 v4.name.number, cS v4.name.text, Cell.any, Cell.any, cI v4.depth, cI v4.form.kind, cI v4.form.number, cS v4.form.text, Cell.any, Cell.any,
 Cell.any]))]))))))))))))))))))))))))))))) (.o 0 [0, 1, 2, 3] [.o (Ob.arr true 12 v3)])) (.y false (.o 0 [0, 1, 2, 3] [.o (Ob.arr true 12 v3)])))) (by
  intro k2 h; try dsimp only [teasy, nthW, lc_sMatLLd] at h ⊢
  have g3 := rpTo_len (nS Ls (p.items.getD k default)) (rS B Ls p f o k k1) (oneS B Ls p f o k k1) k2
  have gc := @oneS_len B Ls p f o k k1
  have ge := @eachS_len B Ls p f o k k1 k2
  have gz := @eachS_end B Ls p f o k k1 k2
  with_reducible repeat' (first | apply And.intro | exact zR | (intro; skip))
  all_goals (try simp only [std, inj] at *)
  all_goals with_reducible repeat' apply And.intro
  all_goals (try (first | exact z | exact List.set_set .. | exact one_getF (by grind) | exact one_step (by grind) | exact one_len (by grind) | exact each_step _ (by omega) | exact gz h.2.2.2.1 h.2.2.1 (.inl ‹_›) | exact gz h.2.2.2.1 h.2.2.1 (.inr (by omega)) | grind)))
theorem Sc_sMatLLc (B : List Binding) (Ls : List Syntax) (p : Syntax) (f : Syntax) (o : List Capture) (h : B.length ≤ 1048577 ∧ sumBy wB B ≤ 1048577 ∧ wY p ≤ 1048576 ∧ wY f ≤
 1000000000 ∧ o.length + sizeY p ≤ 2147483647 ∧ depY p ≤ 40) (hg : good Ls p ∧ p.kind = 0) (ih : ∀ (z : Syntax), z ∈ p.items → ∀ (B : List Binding) (Ls : List Syntax) (f : Syntax)
 (o : List Capture), B.length ≤ 1048577 ∧ sumBy wB B ≤ 1048577 ∧ wY z ≤ 1048576 ∧ wY f ≤ 1000000000 ∧ o.length + sizeY z ≤ 2147483647 ∧ depY z ≤ 40 → good Ls z → OK (P_c_sMat B Ls
 z f o)) (k : Nat) : Lp.Sem Tryz.prog (loopAt Tryz.f185 2) (lc_sMatLLc B Ls p f o k) := lpOK (fun k1 => .i ((↑k1 : Int) < (↑(mS p f) : Int)) (.b (qS B Ls p f o k k1) (.w (.bool
 false) (.w (.draw [(12, [4])]) (.x (↑k : Int) (List.map syntaxC p.items) (syntaxF (p.items.getD k default)) (.x ((↑(kS B Ls p f o k) : Int) + (↑k1 : Int)) (List.map syntaxC
 f.items) (syntaxF (f.items.getD (kS B Ls p f o k + k1) default)) (.d [.rd, .rd, .rd, .rd, .own true 12] (P_c_sMat B Ls (p.items.getD k default) (f.items.getD (kS B Ls p f o k +
 k1) default) []) (.r ((↑(kS B Ls p f o k) : Int) + (↑k1 : Int) + 1) (.l (lc_sMatLLd B Ls p f o k k1) (Sc_sMatLLd B Ls p f o h hg ih k k1) [0, 1, 2, 3, 6] [.s (li 0), .o (Ob.arr
 true 12 (List.map captureC (rp (nS Ls (p.items.getD k default)) (rS B Ls p f o k k1)))), .o (Ob.arr true 12 (List.map captureC (smO (p.items.getD k default) [] (gS B Ls
 (p.items.getD k default) (f.items.getD (kS B Ls p f o k + k1) default)))))] 0 (.t (.r ((↑k1 : Int) + 1) (.g [0, 1, 2, 3] (k1 + 1) [.s (li ((↑k1 : Int) + 1)), .s (li ((↑(kS B Ls p
 f o k) : Int) + (↑k1 : Int) + 1)), .s (lb (gS B Ls (p.items.getD k default) (f.items.getD (kS B Ls p f o k + k1) default)).isSome), .o (Ob.arr true 12 (List.map captureC (rp (nS
 Ls (p.items.getD k default)) (rS B Ls p f o k (k1 + 1)))))])) .q)))))))) (.o 0 [0, 1, 2, 3] [.s (li ((↑(kS B Ls p f o k) : Int) + (↑k1 : Int))), .s (lb (qS B Ls p f o k k1)), .o
 (Ob.arr true 12 (List.map captureC (rp (nS Ls (p.items.getD k default)) (rS B Ls p f o k k1))))])) (.y false (.o 0 [0, 1, 2, 3] [.s (li ((↑(kS B Ls p f o k) : Int) + (↑k1 :
 Int))), .s (lb (qS B Ls p f o k k1)), .o (Ob.arr true 12 (List.map captureC (rp (nS Ls (p.items.getD k default)) (rS B Ls p f o k k1))))]))) (by
  intro k1 h; try dsimp only [teasy, nthW, lc_sMatLLc, lc_sMatLLd] at h ⊢
  have ga := atB_of h.2.2.2.1
  have gi := item_ok ga.1
  have gl := len_w f
  have gf := @item_ok (kS B Ls p f o k + k1) f
  have g3 := @rS_len B Ls p f o k k1
  have g4 := @rS_stop B Ls p f o k k1
  have g5 := nS_size (Ls := Ls) (p.items.getD k default)
  have g6 := sizeY_le (p.items.getD k default)
  have g7 := @rpTo_zero (nS Ls (p.items.getD k default)) (rS B Ls p f o k k1) (oneS B Ls p f o k k1)
  have gr := @rep_good Ls p k hg.1 hg.2
  with_reducible repeat' (first | apply And.intro | exact zR | exact ih | (intro; skip))
  all_goals (try simp only [std, inj, eV_def, aS_def] at *)
  all_goals with_reducible repeat' apply And.intro
  all_goals (try (first | with_reducible apply ih))
  all_goals (try (first | exact zw | exact gi.2.2.2.2 | exact gr h.2.2.2.1 | exact one_zero | exact q_next ‹_› | exact q_or ‹_› | (have q := gf (by omega); omega) | (have q := g3 ‹_›; omega) | (simp only [List.length_nil]; omega) | grind)))
theorem Sc_sMatLLb (B : List Binding) (Ls : List Syntax) (p : Syntax) (f : Syntax) (o : List Capture) (h : B.length ≤ 1048577 ∧ sumBy wB B ≤ 1048577 ∧ wY p ≤ 1048576 ∧ wY f ≤
 1000000000 ∧ o.length + sizeY p ≤ 2147483647 ∧ depY p ≤ 40) (hg : good Ls p ∧ p.kind = 0) (ih : ∀ (z : Syntax), z ∈ p.items → ∀ (B : List Binding) (Ls : List Syntax) (f : Syntax)
 (o : List Capture), B.length ≤ 1048577 ∧ sumBy wB B ≤ 1048577 ∧ wY z ≤ 1048576 ∧ wY f ≤ 1000000000 ∧ o.length + sizeY z ≤ 2147483647 ∧ depY z ≤ 40 → good Ls z → OK (P_c_sMat B Ls
 z f o)) (k : Nat) : Lp.Sem Tryz.prog (loopAt Tryz.f185 1) (lc_sMatLLb B Ls p f o k) := lpOK (fun k1 => .i ((↑k1 : Int) < (↑(List.map captureC ((vrS Ls (p.items.getD k default) 0
 []).getD [])).length : Int)) (.p (0 ≤ (↑k1 : Int) ∧ (↑k1 : Int).toNat < (List.map captureC (upTo (eV Ls (p.items.getD k default)) k1)).length) (.w (.cells (captureF ((upTo (eV Ls
 (p.items.getD k default)) k1).getD (↑k1 : Int).toNat default))) (.p ((List.map captureC (upTo (eV Ls (p.items.getD k default)) k1))[(↑k1 : Int).toNat]? = some (captureF ((upTo (eV
 Ls (p.items.getD k default)) k1).getD (↑k1 : Int).toNat default))) (.r (((upTo (eV Ls (p.items.getD k default)) k1).getD (↑k1 : Int).toNat default).depth + 1) (.p (0 ≤ (↑k1 : Int)
 ∧ (↑k1 : Int).toNat < (List.map captureC (upTo (eV Ls (p.items.getD k default)) k1)).length) (.w (.cells (captureF ((upTo (eV Ls (p.items.getD k default)) k1).getD (↑k1 :
 Int).toNat default))) (.p ((List.map captureC (upTo (eV Ls (p.items.getD k default)) k1))[(↑k1 : Int).toNat]? = some (captureF ((upTo (eV Ls (p.items.getD k default)) k1).getD
 (↑k1 : Int).toNat default))) (.r ((↑k1 : Int) + 1) (.g [0, 1, 2, 3] (k1 + 1) [.s (li ((↑k1 : Int) + 1)), .o (Ob.arr true 12 ((List.map captureC (upTo (eV Ls (p.items.getD k
 default)) k1)).set (↑k1 : Int).toNat [cI ((upTo (eV Ls (p.items.getD k default)) k1).getD (↑k1 : Int).toNat default).name.kind, cI ((upTo (eV Ls (p.items.getD k default)) k1).getD
 (↑k1 : Int).toNat default).name.number, cS ((upTo (eV Ls (p.items.getD k default)) k1).getD (↑k1 : Int).toNat default).name.text, Cell.list (List.map intC ((upTo (eV Ls
 (p.items.getD k default)) k1).getD (↑k1 : Int).toNat default).name.scopes), Cell.list (List.map syntaxC ((upTo (eV Ls (p.items.getD k default)) k1).getD (↑k1 : Int).toNat
 default).name.items), cI (((upTo (eV Ls (p.items.getD k default)) k1).getD (↑k1 : Int).toNat default).depth + 1), cI ((upTo (eV Ls (p.items.getD k default)) k1).getD (↑k1 :
 Int).toNat default).form.kind, cI ((upTo (eV Ls (p.items.getD k default)) k1).getD (↑k1 : Int).toNat default).form.number, cS ((upTo (eV Ls (p.items.getD k default)) k1).getD (↑k1
 : Int).toNat default).form.text, Cell.list (List.map intC ((upTo (eV Ls (p.items.getD k default)) k1).getD (↑k1 : Int).toNat default).form.scopes), Cell.list (List.map syntaxC
 ((upTo (eV Ls (p.items.getD k default)) k1).getD (↑k1 : Int).toNat default).form.items), Cell.list (List.map captureC ((upTo (eV Ls (p.items.getD k default)) k1).getD (↑k1 :
 Int).toNat default).each)]))]))))))))) (.o 0 [0, 1, 2, 3] [.o (Ob.arr true 12 (List.map captureC (upTo (eV Ls (p.items.getD k default)) k1)))])) (by
  intro k1 h; try dsimp only [teasy, nthW, lc_sMatLLb] at h ⊢
  have g3 := upTo_len (eV Ls (p.items.getD k default)) k1
  have gd := @eV_depth Ls p k k1 hg.1 hg.2
  have ge := @up_end Ls p k k1 hg.1 hg.2
  with_reducible repeat' (first | apply And.intro | exact zR | (intro; skip))
  all_goals (try simp only [std, inj, eV_def, aS_def] at *)
  all_goals with_reducible repeat' apply And.intro
  all_goals (try (first | exact zw | exact up_step (by omega) | (have q := gd h.2.2.1 h.2.2.2 (by omega); omega) | exact ge h.2.2.1 (by omega) | grind)))
theorem Sc_sMatLLa (B : List Binding) (Ls : List Syntax) (p : Syntax) (f : Syntax) (o : List Capture) (h : B.length ≤ 1048577 ∧ sumBy wB B ≤ 1048577 ∧ wY p ≤ 1048576 ∧ wY f ≤
 1000000000 ∧ o.length + sizeY p ≤ 2147483647 ∧ depY p ≤ 40) (hg : good Ls p ∧ p.kind = 0) (ih : ∀ (z : Syntax), z ∈ p.items → ∀ (B : List Binding) (Ls : List Syntax) (f : Syntax)
 (o : List Capture), B.length ≤ 1048577 ∧ sumBy wB B ≤ 1048577 ∧ wY z ≤ 1048576 ∧ wY f ≤ 1000000000 ∧ o.length + sizeY z ≤ 2147483647 ∧ depY z ≤ 40 → good Ls z → OK (P_c_sMat B Ls
 z f o)) : Lp.Sem Tryz.prog (loopAt Tryz.f185 0) (lc_sMatLLa B Ls p f o) := lpOK (fun k => .i ((↑k : Int) < (↑(List.map syntaxC p.items).length : Int)) (.b (bS B Ls p f o k) (.i
 ((↑k : Int) = if okS p.items = true then atS p.items else (-1 : Int)) (.r ((↑k : Int) + 1) (.g [0, 1, 2] (k + 1) [.s (li ((↑k : Int) + 1)), .s (li (↑(mS p f) : Int)), .s (li (↑(kS
 B Ls p f o k) : Int)), .s (lb (bS B Ls p f o k)), .o (Ob.arr true 12 (List.map captureC (oS B Ls p f o k)))])) (.r ((↑k : Int) + 1) (.i ((↑k : Int) + (1 : Int) ≠ if okS p.items =
 true then atS p.items else (-1 : Int)) (.w (.draw [(12, [1])]) (.x (↑k : Int) (List.map syntaxC p.items) (syntaxF (p.items.getD k default)) (.x (↑(kS B Ls p f o k) : Int)
 (List.map syntaxC f.items) (syntaxF (f.items.getD (kS B Ls p f o k) default)) (.d [.rd, .rd, .rd, .rd, .own true 12] (P_c_sMat B Ls (p.items.getD k default) (f.items.getD (kS B Ls
 p f o k) default) (oS B Ls p f o k)) (.r ((↑(kS B Ls p f o k) : Int) + 1) (.r ((↑k : Int) + 1) (.g [0, 4, 2] (k + 1) [.s (li ((↑k : Int) + 1)), .s (li (↑(mS p f) : Int)), .s (li
 ((↑(kS B Ls p f o k) : Int) + 1)), .s (lb (gS B Ls (p.items.getD k default) (f.items.getD (kS B Ls p f o k) default)).isSome), .o (Ob.arr true 12 (List.map captureC (smO
 (p.items.getD k default) (oS B Ls p f o k) (gS B Ls (p.items.getD k default) (f.items.getD (kS B Ls p f o k) default)))))]))))))) (.x (↑k : Int) (List.map syntaxC p.items)
 (syntaxF (p.items.getD k default)) (.w (.bool false) (.d [.rd, .rd, .rd, .own true 12] (P_c_sVars Ls (p.items.getD k default) 0 []) (.z captureC ((vrS Ls (p.items.getD k default)
 0 []).getD []) (.l (lc_sMatLLb B Ls p f o k) (Sc_sMatLLb B Ls p f o h hg ih k) [0, 1, 2, 5] [.s (li 0), .o (Ob.arr true 12 (List.map captureC ((vrS Ls (p.items.getD k default) 0
 []).getD [])))] 0 (.t (.l (lc_sMatLLc B Ls p f o k) (Sc_sMatLLc B Ls p f o h hg ih k) [0, 1, 2, 3] [.s (li 0), .s (li (↑(kS B Ls p f o k) : Int)), .s (lb (bS B Ls p f o k)), .o
 (Ob.arr true 12 (List.map captureC (nS Ls (p.items.getD k default))))] 0 (.t (.p (((List.map captureC (oS B Ls p f o k)).length + (List.map captureC (rp (nS Ls (p.items.getD k
 default)) (rS B Ls p f o k (mS p f)))).length) * 192 ≤ 140737488355328) (.r ((↑k : Int) + 1) (.g [0, 4, 2] (k + 1) [.s (li ((↑k : Int) + 1)), .s (li (↑(mS p f) : Int)), .s (li
 ((↑(kS B Ls p f o k) : Int) + (↑(if qS B Ls p f o k (mS p f) = true then mS p f else (rS B Ls p f o k (mS p f)).length + 1) : Int))), .s (lb (qS B Ls p f o k (mS p f))), .o
 (Ob.arr true 12 (List.map captureC (oS B Ls p f o k) ++ List.map captureC (rp (nS Ls (p.items.getD k default)) (rS B Ls p f o k (mS p f)))))]))) .q)) .q))))))))) (.o 0 [0, 1] [.s
 (lb (bS B Ls p f o k)), .o (Ob.arr true 12 (List.map captureC (oS B Ls p f o k)))])) (.y false (.o 0 [0, 1] [.s (lb (bS B Ls p f o k)), .o (Ob.arr true 12 (List.map captureC (oS B
 Ls p f o k)))]))) (by
  intro k h; try dsimp only [teasy, nthW, lc_sMatLLa, lc_sMatLLc, lc_sMatLLb] at h ⊢
  rename_i hh
  have gs := @sM_skip B Ls p f o k
  have g1 := @sM_one B Ls p f o k
  have gr := @sM_rep B Ls p f o k
  have gst := @sM_stop B Ls p f o k p.items.length
  have gat := fun a => @sM_at B Ls p f o h.2.2 k a
  have gi := @item_ok k p
  have gf := @item_ok (kS B Ls p f o k) f
  have gl := len_w f
  have gg := @good_item Ls p hg.1 hg.2 k
  have gn := nS_size (Ls := Ls) (p.items.getD k default)
  have g11 := rp_nil (nS Ls (p.items.getD k default))
  have g12 := upTo_zero (eV Ls (p.items.getD k default))
  have g13 := @rS_zero B Ls p f o k
  have ge := @eV_size Ls p k hg.1 hg.2
  have ga := @atB_mk p k
  have gc := rp_len (nS Ls (p.items.getD k default)) (rS B Ls p f o k (mS p f))
  have gz := sizeY_le p
  with_reducible repeat' (first | apply And.intro | exact zR | exact ih | (intro; skip) | apply c_sVars)
  all_goals (try simp only [std, inj, eV_def, aS_def, ne_eq, Decidable.not_not] at *)
  all_goals with_reducible repeat' apply And.intro
  all_goals (try (first | with_reducible apply ih))
  all_goals (try (first | exact zw | exact (gi (by omega)).2.2.2.2 | (have q := gi (by omega); omega) | (have q := gat (by omega) ‹_›; have q2 := gi (by omega); omega) | (have q := gat (by omega) ‹_›; have q2 := gf (by omega); omega) | grind)))
theorem c_sMatL (B : List Binding) (Ls : List Syntax) (p f : Syntax) (o : List Capture) (h : B.length ≤ 1048577 ∧ sumBy wB B ≤ 1048577 ∧ wY p ≤ 1048576 ∧ wY f ≤ 1000000000 ∧
 o.length + sizeY p ≤ 2147483647 ∧ depY p ≤ 40) (hg : good Ls p ∧ p.kind = 0) (ih : ∀ z ∈ p.items, ∀ (B : List Binding) (Ls : List Syntax) (f : Syntax) (o : List Capture) (h :
 B.length ≤ 1048577 ∧ sumBy wB B ≤ 1048577 ∧ wY z ≤ 1048576 ∧ wY f ≤ 1000000000 ∧ o.length + sizeY z ≤ 2147483647 ∧ depY z ≤ 40) (hg : good Ls z), P_c_sMat B Ls z f o)  : P_c_sMatL
 B Ls p f o := fnOK Tryz.call185 Tryz.func185 (.c [.rd] (c_sAt p.items) (.z syntaxC p.items (.i (0 ≤ if okS p.items = true then atS p.items else (-1 : Int)) (.z syntaxC f.items (.r
 ((↑(List.map syntaxC p.items).length : Int) - 2) (.r ((↑(List.map syntaxC f.items).length : Int) - ((↑(List.map syntaxC p.items).length : Int) - 2)) (.i (f.kind ≠ 0) (.y true (.y
 true (.w (.ghost (.nilreg 10 true 12)) (.w (.ghost (.move 0)) (.f [2] [Ob.dead, Ob.arr true 12 []] (AV.tup [SV.one (AC.ref 1), lb false])))))) (.i ((↑(List.map syntaxC
 f.items).length : Int) - ((↑(List.map syntaxC p.items).length : Int) - 2) < 0) (.y true (.w (.ghost (.nilreg 10 true 12)) (.w (.ghost (.move 0)) (.f [2] [Ob.dead, Ob.arr true 12
 []] (AV.tup [SV.one (AC.ref 1), lb false]))))) (.i ((if okS p.items = true then atS p.items else (-1 : Int)) < 0) (.z syntaxC f.items (.i ((↑(List.map syntaxC f.items).length :
 Int) ≠ (↑(List.map syntaxC p.items).length : Int)) (.w (.ghost (.nilreg 10 true 12)) (.w (.ghost (.move 0)) (.f [2] [Ob.dead, Ob.arr true 12 []] (AV.tup [SV.one (AC.ref 1), lb
 false])))) (.w (.ghost (.move 0)) (.l (lc_sMatLLa B Ls p f o) (Sc_sMatLLa B Ls p f o h hg ih) [0, 2, 1] [.s (li 0), .s (li ((↑(List.map syntaxC f.items).length : Int) -
 ((↑(List.map syntaxC p.items).length : Int) - 2))), .s (li 0), .s (lb true), .o (Ob.arr true 12 (List.map captureC o))] 0 (.t (.b (!bS B Ls p f o p.items.length) (.w (.ghost
 (.nilreg 10 true 12)) (.f [2] [Ob.dead, Ob.arr true 12 []] (AV.tup [SV.one (AC.ref 1), lb false]))) (.f [1] [Ob.dead, Ob.arr true 12 (List.map captureC (oS B Ls p f o
 p.items.length))] (AV.tup [SV.one (AC.ref 1), lb true]))) .q))))) (.y false (.w (.ghost (.move 0)) (.l (lc_sMatLLa B Ls p f o) (Sc_sMatLLa B Ls p f o h hg ih) [0, 2, 1] [.s (li
 0), .s (li ((↑(List.map syntaxC f.items).length : Int) - ((↑(List.map syntaxC p.items).length : Int) - 2))), .s (li 0), .s (lb true), .o (Ob.arr true 12 (List.map captureC o))] 0
 (.t (.b (!bS B Ls p f o p.items.length) (.w (.ghost (.nilreg 10 true 12)) (.f [2] [Ob.dead, Ob.arr true 12 []] (AV.tup [SV.one (AC.ref 1), lb false]))) (.f [1] [Ob.dead, Ob.arr
 true 12 (List.map captureC (oS B Ls p f o p.items.length))] (AV.tup [SV.one (AC.ref 1), lb true]))) .q)))))))))) (.i (f.kind ≠ 0) (.y true (.y true (.w (.ghost (.nilreg 10 true
 12)) (.w (.ghost (.move 0)) (.f [2] [Ob.dead, Ob.arr true 12 []] (AV.tup [SV.one (AC.ref 1), lb false])))))) (.y false (.i ((if okS p.items = true then atS p.items else (-1 :
 Int)) < 0) (.z syntaxC f.items (.i ((↑(List.map syntaxC f.items).length : Int) ≠ (↑(List.map syntaxC p.items).length : Int)) (.w (.ghost (.nilreg 10 true 12)) (.w (.ghost (.move
 0)) (.f [2] [Ob.dead, Ob.arr true 12 []] (AV.tup [SV.one (AC.ref 1), lb false])))) (.w (.ghost (.move 0)) (.l (lc_sMatLLa B Ls p f o) (Sc_sMatLLa B Ls p f o h hg ih) [0, 2, 1] [.s
 (li 0), .s (li 0), .s (li 0), .s (lb true), .o (Ob.arr true 12 (List.map captureC o))] 0 (.t (.b (!bS B Ls p f o p.items.length) (.w (.ghost (.nilreg 10 true 12)) (.f [2]
 [Ob.dead, Ob.arr true 12 []] (AV.tup [SV.one (AC.ref 1), lb false]))) (.f [1] [Ob.dead, Ob.arr true 12 (List.map captureC (oS B Ls p f o p.items.length))] (AV.tup [SV.one (AC.ref
 1), lb true]))) .q))))) (.y false (.w (.ghost (.move 0)) (.l (lc_sMatLLa B Ls p f o) (Sc_sMatLLa B Ls p f o h hg ih) [0, 2, 1] [.s (li 0), .s (li 0), .s (li 0), .s (lb true), .o
 (Ob.arr true 12 (List.map captureC o))] 0 (.t (.b (!bS B Ls p f o p.items.length) (.w (.ghost (.nilreg 10 true 12)) (.f [2] [Ob.dead, Ob.arr true 12 []] (AV.tup [SV.one (AC.ref
 1), lb false]))) (.f [1] [Ob.dead, Ob.arr true 12 (List.map captureC (oS B Ls p f o p.items.length))] (AV.tup [SV.one (AC.ref 1), lb true]))) .q)))))))))) (by
  dsimp only [teasy, P_c_sMatL, nthW, lc_sMatLLa]
  have g1 := @sM_zero B Ls p f o
  have g2 := @mS_of p f
  have g3 := @mS_no p f
  have g4 := @fS_a p f
  have g5 := @fS_b p f
  have g6 := @out_a B Ls p f o hg.2
  have g7 := @out_b B Ls p f o hg.2
  have g8 := @out_c B Ls p f o hg.2
  have g9 := @out_d B Ls p f o hg.2
  have g10 := @out_e B Ls p f o hg.2
  have g11 := wY_eq f
  with_reducible repeat' (first | apply And.intro | exact zR | (intro; skip))
  all_goals (try simp only [std, inj, aS_def, Decidable.not_not] at *)
  all_goals with_reducible repeat' apply And.intro
  all_goals (try (first | exact zw | grind)))
theorem c_sMat_s (B : List Binding) (Ls : List Syntax) (p f : Syntax) (o : List Capture) (h : B.length ≤ 1048577 ∧ sumBy wB B ≤ 1048577 ∧ wY p ≤ 1048576 ∧ wY f ≤ 1000000000 ∧
 o.length + sizeY p ≤ 2147483647 ∧ depY p ≤ 40) (hg : good Ls p) (ih : ∀ z ∈ p.items, ∀ (B : List Binding) (Ls : List Syntax) (f : Syntax) (o : List Capture) (h : B.length ≤
 1048577 ∧ sumBy wB B ≤ 1048577 ∧ wY z ≤ 1048576 ∧ wY f ≤ 1000000000 ∧ o.length + sizeY z ≤ 2147483647 ∧ depY z ≤ 40) (hg : good Ls z), P_c_sMat B Ls z f o)  : P_c_sMat B Ls p f o
 := fnOK Tryz.call106 Tryz.func106 (.i (p.kind = 1) (.i (p.text.data.toList = [(95 : UInt8)]) (.w (.ghost (.move 0)) (.f [3] [Ob.dead, Ob.arr true 12 (List.map captureC o)] (AV.tup
 [SV.one (AC.ref 1), lb true]))) (.c [.rd, .rd] (c_sHasI Ls p) (.b (hasI Ls p) (.i (f.kind = 1) (.d [.rd, .rd, .rd] (P_c_sMean B p f) (.w (.ghost (.move 0)) (.f [3] [Ob.dead,
 Ob.arr true 12 (List.map captureC o)] (AV.tup [SV.one (AC.ref 1), lb (mng B p f)])))) (.w (.ghost (.move 0)) (.f [3] [Ob.dead, Ob.arr true 12 (List.map captureC o)] (AV.tup
 [SV.one (AC.ref 1), lb false])))) (.w (.draw [(6, [3, 4, 11, 12]), (7, [0, 19])]) (.d [.rd] (P_c_sCopyY p) (.d [.rd] (P_c_sCopyY f) (.p (((List.map captureC o).length + 1) * 192 ≤
 140737488355328) (.f [20] [Ob.dead, Ob.arr true 12 (List.map captureC o ++ [[cI p.kind, cI p.number, cS p.text, Cell.list (List.map intC p.scopes), Cell.list (List.map syntaxC
 p.items), cI 0, cI f.kind, cI f.number, cS f.text, Cell.list (List.map intC f.scopes), Cell.list (List.map syntaxC f.items), Cell.list []]])] (AV.tup [SV.one (AC.ref 1), lb
 true]))))))))) (.i (p.kind = 0) (.d [.rd, .rd, .rd, .rd, .own true 12] (P_c_sMatL B Ls p f o) (.f [4] [Ob.dead, Ob.arr true 12 (List.map captureC (smO p o (gS B Ls p f)))] (AV.tup
 [SV.one (AC.ref 1), lb (gS B Ls p f).isSome]))) (.w (.draw []) (.i (p.kind = f.kind) (.i (p.number = f.number) (.w (.ghost (.move 0)) (.f [3] [Ob.dead, Ob.arr true 12 (List.map
 captureC o)] (AV.tup [SV.one (AC.ref 1), lb (decide (p.text.data.toList = f.text.data.toList))]))) (.w (.ghost (.move 0)) (.f [3] [Ob.dead, Ob.arr true 12 (List.map captureC o)]
 (AV.tup [SV.one (AC.ref 1), lb false])))) (.y false (.w (.ghost (.move 0)) (.f [3] [Ob.dead, Ob.arr true 12 (List.map captureC o)] (AV.tup [SV.one (AC.ref 1), lb false]))))))))
 (by
  dsimp only [teasy, P_c_sMat]
  have g1 := @gS_sym B Ls p f o
  have g2 := @gS_wild B Ls p f o
  have g3 := @gS_lit B Ls p f o
  have g4 := @gS_other B Ls p f o
  have g5 := capF_snoc o p f
  have g6 : isUnd p = decide (p.text.data.toList = [95]) := rfl
  have g7 : p.kind = 1 → isUnd p = true → (gS B Ls p f).isSome = true := fun a b => by rw [(g2 a b).1]; rfl
  with_reducible repeat' (first | apply And.intro | exact zR | exact ih | (intro; skip) | apply mIc | apply mOc | apply mSc | apply mLc | apply c_sHasI | apply c_sMean | apply c_sCopyY | apply c_sMatL)
  all_goals (try simp only [std, inj] at *)
  all_goals with_reducible repeat' apply And.intro
  all_goals (try (first | with_reducible apply c_sHasI | with_reducible apply c_sMean | with_reducible apply c_sCopyY | with_reducible apply c_sMatL | with_reducible apply ih | (simp only [← List.map_append]; first | with_reducible apply c_sHasI | with_reducible apply c_sMean | with_reducible apply c_sCopyY | with_reducible apply c_sMatL | with_reducible apply ih)))
  all_goals (try (first | exact zw | exact zM | grind [snocI, snocS, rowSnoc]))
  all_goals (first | exact sm_lit1 ‹_› ‹_› ‹_› ‹_› | exact sm_lit2 ‹_› ‹_› ‹_› ‹_› | exact sm_sym ‹_› ‹_› ‹_› | exact sm_o1 ‹_› ‹_› ‹_› ‹_› | exact sm_o2 ‹_› ‹_› ‹_› ‹_› | exact sm_o3 ‹_› ‹_› ‹_›))
theorem c_sMat (p : Syntax) : ∀ (B : List Binding) (Ls : List Syntax) (f : Syntax) (o : List Capture) (h : B.length ≤ 1048577 ∧ sumBy wB B ≤ 1048577 ∧ wY p ≤ 1048576 ∧ wY f ≤ 1000000000 ∧ o.length + sizeY p ≤ 2147483647 ∧ depY p ≤ 40) (hg : good Ls p), P_c_sMat B Ls p f o := Syntax.ind (P := fun p => ∀ (B : List Binding) (Ls : List Syntax) (f : Syntax) (o : List Capture) (h : B.length ≤ 1048577 ∧ sumBy wB B ≤ 1048577 ∧ wY p ≤ 1048576 ∧ wY f ≤ 1000000000 ∧ o.length + sizeY p ≤ 2147483647 ∧ depY p ≤ 40) (hg : good Ls p), P_c_sMat B Ls p f o) (fun p ih B Ls f o h hg => c_sMat_s B Ls p f o h hg ih) p
abbrev P_c_sMatch (B : List Binding) (Ls : List Syntax) (p : Syntax) (f : Syntax) : Ct := ⟨37, [], [ll (B.map bindingC), ll (Ls.map syntaxC), syntaxA p, syntaxA f], [.arr true 12 ((mtO B Ls p f).map captureC)], .tup [.one (.ref 0), lb (mtB B Ls p f)]⟩
theorem c_sMatch (B : List Binding) (Ls : List Syntax) (p f : Syntax) (h : B.length ≤ 1048577 ∧ sumBy wB B ≤ 1048577 ∧ wY p ≤ 1048576 ∧ wY f ≤ 1000000000)  : P_c_sMatch B Ls p f :=
 fnOK Tryz.call37 Tryz.func37 (.d [.rd, .rd] (P_c_sPat Ls p) (.b (!(okL Ls && isSyn p && (vrS Ls p 0 []).isSome)) (.y true (.y true (.w (.ghost (.nilreg 8 true 12)) (.f [3] [Ob.arr
 true 12 []] (AV.tup [SV.one (AC.ref 0), lb false]))))) (.c [.rd] (c_sAre B) (.b (!areB B) (.y true (.w (.ghost (.nilreg 8 true 12)) (.f [3] [Ob.arr true 12 []] (AV.tup [SV.one
 (AC.ref 0), lb false])))) (.c [.rd] (c_sIsSyntax f) (.b (!isSyn f) (.w (.ghost (.nilreg 8 true 12)) (.f [3] [Ob.arr true 12 []] (AV.tup [SV.one (AC.ref 0), lb false]))) (.w (.bool
 false) (.d [.rd, .rd, .rd, .rd, .own true 12] (P_c_sMat B Ls p f []) (.b (!(gS B Ls p f).isSome) (.w (.ghost (.nilreg 8 true 12)) (.f [6] [Ob.arr true 12 []] (AV.tup [SV.one
 (AC.ref 0), lb false]))) (.f [5] [Ob.arr true 12 (List.map captureC (smO p [] (gS B Ls p f)))] (AV.tup [SV.one (AC.ref 0), lb true]))))))))))) (by
  dsimp only [teasy, P_c_sMatch]
  have g1 := @mt_good Ls p
  have g2 := @smO_nil p (gS B Ls p f)
  with_reducible repeat' (first | apply And.intro | exact zR | (intro; skip) | apply mIc | apply mOc | apply mSc | apply mLc | apply c_sPat | apply c_sMat)
  all_goals (try simp only [std, inj] at *)
  all_goals with_reducible repeat' apply And.intro
  all_goals (try (first | with_reducible apply c_sPat | with_reducible apply c_sMat | (simp only [← List.map_append]; first | with_reducible apply c_sPat | with_reducible apply c_sMat)))
  all_goals (try (first | exact z | exact zM | grind [mtB, mtO, snocI, snocS, rowSnoc])))
end Go.Proofs.YtpnaoendfpaodaaGreat
end
section
namespace Go.Proofs.YtpnaoendfpaodaaGreat
open Go Go.Proofs.YtpnaoendfpaodaaGreat.Ab
set_option linter.unusedVariables false
set_option linter.unusedSimpArgs false
set_option maxHeartbeats 4000000
abbrev P_c_iAll (B : List Binding) (Ls : List Syntax) (ps : List Syntax) (fs : List Syntax) (o : List Capture) : Ct := ⟨194, [.arr true 12 (o.map captureC)], [.agg [vL (B.map bindingC), vL (Ls.map syntaxC)], ll (ps.map syntaxC), ll (fs.map syntaxC), .one (.ref 0)], [.dead, .arr true 12 ((alO o (alM (gI B Ls) ps fs)).map captureC)], .tup [.one (.ref 1), lb (alM (gI B Ls) ps fs).isSome]⟩
abbrev P_c_iMat (B : List Binding) (Ls : List Syntax) (p : Syntax) (f : Syntax) (o : List Capture) : Ct := ⟨111, [.arr true 12 (o.map captureC)], [.agg [vL (B.map bindingC), vL (Ls.map syntaxC)], syntaxA p, syntaxA f, .one (.ref 0)], [.dead, .arr true 12 ((smO p o (gI B Ls p f)).map captureC)], .tup [.one (.ref 1), lb (gI B Ls p f).isSome]⟩
def lc_iAllLa (B : List Binding) (Ls : List Syntax) (ps : List Syntax) (fs : List Syntax) (o : List Capture) : Lp Nat := .mk 37 1 (fun x => [(1, ll (List.map syntaxC ps)), (2, ll
 (List.map syntaxC fs)), (3, SV.one (AC.ref 1)), (4, SV.one (AC.ptr 2 0)), (14, li (↑(List.map syntaxC ps).length : Int)), (15, hs x 0)]) (fun x => [Ob.dead, ho x 1, Ob.box [vL
 (List.map bindingC B), vL (List.map syntaxC Ls)]]) (fun k => [.s (li (↑k : Int)), .o (Ob.arr true 12 (List.map captureC (alO o (alM (gI B Ls) (List.take k ps) fs))))]) (fun k => k
 ≤ ps.length ∧ ps.length ≤ 9223372036854775807 ∧ (alM (gI B Ls) (List.take k ps) fs).isSome = true) (fun k => ps.length - k) [.mk ((alM (gI B Ls) ps fs).isSome = true) (.exit 0)
 (fun x => [(3, SV.one (AC.ref 1))]) (fun x => [Ob.dead, ho x 0]) [.o (Ob.arr true 12 (List.map captureC (alO o (alM (gI B Ls) ps fs))))], .mk ((alM (gI B Ls) ps fs).isSome =
 false) .ret (fun x => [(8, hs x 0), (9, hs x 1)]) (fun x => [Ob.dead]) [.s (SV.one (AC.val (Cell.lit (Value.slice none 0 0)))), .s (lb false)]]
theorem Sc_iAllLa (B : List Binding) (Ls : List Syntax) (ps : List Syntax) (fs : List Syntax) (o : List Capture) (h : B.length ≤ 1048577 ∧ sumBy wB B ≤ 1048577 ∧ sumBy wY ps ≤
 1048576 ∧ sumBy wY fs ≤ 1000000000 ∧ o.length + sumBy sizeY ps ≤ 2147483647 ∧ ps.length ≤ fs.length ∧ ps.length ≤ 1048576) (hd : ∀ (z : Syntax), z ∈ ps → good Ls z ∧ depY z ≤ 40)
 (hl : Ls.all litP = true) (ih : ∀ (z : Syntax), z ∈ ps → ∀ (B : List Binding) (Ls : List Syntax) (f : Syntax) (o : List Capture), B.length ≤ 1048577 ∧ sumBy wB B ≤ 1048577 ∧ wY z
 ≤ 1048576 ∧ wY f ≤ 1000000000 ∧ o.length + sizeY z ≤ 2147483647 ∧ depY z ≤ 40 → Ls.all litP = true → good Ls z → OK (P_c_iMat B Ls z f o)) : Lp.Sem Tryz.prog (loopAt Tryz.f194 0)
 (lc_iAllLa B Ls ps fs o) := lpOK (fun k => .i ((↑k : Int) < (↑(List.map syntaxC ps).length : Int)) (.w (.draw [(10, [1])]) (.x (↑k : Int) (List.map syntaxC ps) (syntaxF (ps.getD k
 default)) (.x (↑k : Int) (List.map syntaxC fs) (syntaxF (fs.getD k default)) (.d [.rd, .rd, .rd, .own true 12] (P_c_iMat B Ls (ps.getD k default) (fs.getD k default) (alO o (alM
 (gI B Ls) (List.take k ps) fs))) (.b (!(gI B Ls (ps.getD k default) (fs.getD k default)).isSome) (.o 1 [0] [.s (SV.one (AC.val (Cell.lit (Value.slice none 0 0)))), .s (lb false)])
 (.r ((↑k : Int) + 1) (.g [0, 4, 2] (k + 1) [.s (li ((↑k : Int) + 1)), .o (Ob.arr true 12 (List.map captureC (smO (ps.getD k default) (alO o (alM (gI B Ls) (List.take k ps) fs))
 (gI B Ls (ps.getD k default) (fs.getD k default)))))]))))))) (.o 0 [0, 1] [.o (Ob.arr true 12 (List.map captureC (alO o (alM (gI B Ls) (List.take k ps) fs))))])) (by
  intro k h; try dsimp only [teasy, nthW, lc_iAllLa] at h ⊢
  have g1 := @al_go (gI B Ls) ps fs o k
  have g2 := @al_stop (gI B Ls) ps fs (k + 1)
  have g3 := @al_all (gI B Ls) ps fs k
  have g4 := @alO_len B Ls o (ps.take k) fs
  have g5 := hd (ps.getD k default)
  have g6 := @sumBy_mem _ wY ps (ps.getD k default)
  have g7 := @sumBy_mem _ wY fs (fs.getD k default)
  have g8 := @sumBy_step _ _ sizeY ps k
  have g9 := sumBy_takeLe sizeY ps (k + 1)
  with_reducible repeat' (first | apply And.intro | exact zR | exact ih | (intro; skip) | apply ih)
  all_goals (try simp only [std, inj] at *)
  all_goals with_reducible repeat' apply And.intro
  all_goals (try (first | with_reducible apply ih | (simp only [← List.map_append]; first | with_reducible apply ih)))
  all_goals (try (first | exact z | grind [getD_mem', snocI, snocS, rowSnoc])))
theorem c_iAll (B : List Binding) (Ls : List Syntax) (ps fs : List Syntax) (o : List Capture) (h : B.length ≤ 1048577 ∧ sumBy wB B ≤ 1048577 ∧ sumBy wY ps ≤ 1048576 ∧ sumBy wY fs ≤
 1000000000 ∧ o.length + sumBy sizeY ps ≤ 2147483647 ∧ ps.length ≤ fs.length ∧ ps.length ≤ 1048576) (hd : ∀ z ∈ ps, good Ls z ∧ depY z ≤ 40) (hl : Ls.all litP = true) (ih : ∀ z ∈
 ps, ∀ (B : List Binding) (Ls : List Syntax) (f : Syntax) (o : List Capture) (h : B.length ≤ 1048577 ∧ sumBy wB B ≤ 1048577 ∧ wY z ≤ 1048576 ∧ wY f ≤ 1000000000 ∧ o.length + sizeY
 z ≤ 2147483647 ∧ depY z ≤ 40) (hl : Ls.all litP = true) (hg : good Ls z), P_c_iMat B Ls z f o)  : P_c_iAll B Ls ps fs o := fnOK Tryz.call194 Tryz.func194 (.z syntaxC ps (.w (.ghost
 (.move 0)) (.l (lc_iAllLa B Ls ps fs o) (Sc_iAllLa B Ls ps fs o h hd hl ih) [0, 2, 1] [.s (li 0), .o (Ob.arr true 12 (List.map captureC o))] 0 (.t (.f [1] [Ob.dead, Ob.arr true 12
 (List.map captureC (alO o (alM (gI B Ls) ps fs)))] (AV.tup [SV.one (AC.ref 1), lb true])) (.t (.w (.ghost (.nilreg 8 true 12)) (.f [1] [Ob.dead, Ob.arr true 12 []] (AV.tup [SV.one
 (AC.ref 1), lb false]))) .q))))) (by
  dsimp only [teasy, P_c_iAll, nthW, lc_iAllLa]
  have g1 := @al_zero (gI B Ls) ps fs o
  have g2 : (alM (gI B Ls) ps fs).isSome = false → alO o (alM (gI B Ls) ps fs) = [] := fun h => by cases e : alM (gI B Ls) ps fs <;> simp_all [alO]
  with_reducible repeat' (first | apply And.intro | exact zR | exact ih | (intro; skip))
  all_goals (try simp only [std, inj] at *)
  all_goals with_reducible repeat' apply And.intro
  all_goals (try (first | with_reducible apply ih | (simp only [← List.map_append]; first | with_reducible apply ih)))
  all_goals (try (first | exact z | grind [snocI, snocS, rowSnoc])))
def lc_iMat_sLb (B : List Binding) (Ls : List Syntax) (p : Syntax) (f : Syntax) (o : List Capture) (k : Nat) : Lp Nat := .mk 217 1 (fun x => [(3, SV.one (AC.ref 1)), (4, SV.one
 (AC.ptr 2 0)), (5, SV.one (AC.ptr 3 0)), (6, SV.one (AC.ptr 4 0)), (10, li (atI p.items)), (11, ll (List.take ((atI p.items - 1).toNat - 0) (List.drop 0 (List.map syntaxC
 p.items)))), (12, ll (List.take ((List.map syntaxC p.items).length - (atI p.items + 1).toNat) (List.drop (atI p.items + 1).toNat (List.map syntaxC p.items)))), (13, li
 ((↑(List.map syntaxC f.items).length : Int) - (↑(List.take ((atI p.items - 1).toNat - 0) (List.drop 0 (List.map syntaxC p.items))).length : Int) - (↑(List.take ((List.map syntaxC
 p.items).length - (atI p.items + 1).toNat) (List.drop (atI p.items + 1).toNat (List.map syntaxC p.items))).length : Int))), (15, SV.one (AC.ref 5)), (17, li (↑k : Int)), (18,
 SV.one (AC.ref 6)), (181, li (↑(List.map captureC (rp (nI Ls (xI p)) (rI B Ls p f k))).length : Int)), (182, hs x 0)]) (fun x => [Ob.dead, Ob.arr true 12 (List.map captureC (alO o
 (alM (gI B Ls) (List.take ((atI p.items - 1).toNat - 0) (List.drop 0 p.items)) (List.take ((↑(List.take ((atI p.items - 1).toNat - 0) (List.drop 0 (List.map syntaxC
 p.items))).length : Int).toNat - 0) (List.drop 0 f.items))))), Ob.box [vL (List.map bindingC B), vL (List.map syntaxC Ls)], Ob.box (vals (syntaxF p)), Ob.box (vals (syntaxF f)),
 ho x 1, ho x 2]) (fun k1 => [.s (li (↑k1 : Int)), .o (Ob.arr true 12 (List.map captureC (rpTo (nI Ls (xI p)) (rI B Ls p f k) (oneI B Ls p f k) k1))), .o (Ob.arr true 12 (List.map
 capX (List.take k1 (oneI B Ls p f k)) ++ List.map captureC (List.drop k1 (oneI B Ls p f k))))]) (fun k1 => k1 ≤ (nI Ls (xI p)).length ∧ (nI Ls (xI p)).length ≤ 9223372036854775807
 ∧ k < mI2 p f ∧ fI p f = true ∧ qI B Ls p f k = true ∧ (gI B Ls (xI p) (f.items.getD (aT p + k) default)).isSome = true ∧ (rI B Ls p f k).length ≤ 1000000000) (fun k1 => (nI Ls
 (xI p)).length - k1) [.mk True (.exit 3) (fun x => [(3, SV.one (AC.ref 1)), (4, SV.one (AC.ptr 2 0)), (5, SV.one (AC.ptr 3 0)), (6, SV.one (AC.ptr 4 0)), (10, li (atI p.items)),
 (11, ll (List.take ((atI p.items - 1).toNat - 0) (List.drop 0 (List.map syntaxC p.items)))), (12, ll (List.take ((List.map syntaxC p.items).length - (atI p.items + 1).toNat)
 (List.drop (atI p.items + 1).toNat (List.map syntaxC p.items)))), (13, li ((↑(List.map syntaxC f.items).length : Int) - (↑(List.take ((atI p.items - 1).toNat - 0) (List.drop 0
 (List.map syntaxC p.items))).length : Int) - (↑(List.take ((List.map syntaxC p.items).length - (atI p.items + 1).toNat) (List.drop (atI p.items + 1).toNat (List.map syntaxC
 p.items))).length : Int))), (15, SV.one (AC.ref 5)), (17, li (↑k : Int))]) (fun x => [Ob.dead, Ob.arr true 12 (List.map captureC (alO o (alM (gI B Ls) (List.take ((atI p.items -
 1).toNat - 0) (List.drop 0 p.items)) (List.take ((↑(List.take ((atI p.items - 1).toNat - 0) (List.drop 0 (List.map syntaxC p.items))).length : Int).toNat - 0) (List.drop 0
 f.items))))), Ob.box [vL (List.map bindingC B), vL (List.map syntaxC Ls)], Ob.box (vals (syntaxF p)), Ob.box (vals (syntaxF f)), ho x 0]) [.o (Ob.arr true 12 (List.map captureC
 (rp (nI Ls (xI p)) (rI B Ls p f (k + 1)))))]]
def lc_iMat_sLa (B : List Binding) (Ls : List Syntax) (p : Syntax) (f : Syntax) (o : List Capture) : Lp Nat := .mk 217 1 (fun x => [(3, SV.one (AC.ref 1)), (4, SV.one (AC.ptr 2
 0)), (5, SV.one (AC.ptr 3 0)), (6, SV.one (AC.ptr 4 0)), (10, li (atI p.items)), (11, ll (List.take ((atI p.items - 1).toNat - 0) (List.drop 0 (List.map syntaxC p.items)))), (12,
 ll (List.take ((List.map syntaxC p.items).length - (atI p.items + 1).toNat) (List.drop (atI p.items + 1).toNat (List.map syntaxC p.items)))), (13, li ((↑(List.map syntaxC
 f.items).length : Int) - (↑(List.take ((atI p.items - 1).toNat - 0) (List.drop 0 (List.map syntaxC p.items))).length : Int) - (↑(List.take ((List.map syntaxC p.items).length -
 (atI p.items + 1).toNat) (List.drop (atI p.items + 1).toNat (List.map syntaxC p.items))).length : Int))), (15, SV.one (AC.ref 5)), (17, hs x 0)]) (fun x => [Ob.dead, Ob.arr true
 12 (List.map captureC (alO o (alM (gI B Ls) (List.take ((atI p.items - 1).toNat - 0) (List.drop 0 p.items)) (List.take ((↑(List.take ((atI p.items - 1).toNat - 0) (List.drop 0
 (List.map syntaxC p.items))).length : Int).toNat - 0) (List.drop 0 f.items))))), Ob.box [vL (List.map bindingC B), vL (List.map syntaxC Ls)], Ob.box (vals (syntaxF p)), Ob.box
 (vals (syntaxF f)), ho x 1]) (fun k => [.s (li (↑k : Int)), .o (Ob.arr true 12 (List.map captureC (rp (nI Ls (xI p)) (rI B Ls p f k))))]) (fun k => k ≤ mI2 p f ∧ fI p f = true ∧
 qI B Ls p f k = true) (fun k => mI2 p f - k) [.mk (qI B Ls p f (mI2 p f) = true) (.exit 1) (fun x => [(3, SV.one (AC.ref 1)), (4, SV.one (AC.ptr 2 0)), (6, SV.one (AC.ptr 3 0)),
 (11, ll (List.take ((atI p.items - 1).toNat - 0) (List.drop 0 (List.map syntaxC p.items)))), (12, ll (List.take ((List.map syntaxC p.items).length - (atI p.items + 1).toNat)
 (List.drop (atI p.items + 1).toNat (List.map syntaxC p.items)))), (13, li ((↑(List.map syntaxC f.items).length : Int) - (↑(List.take ((atI p.items - 1).toNat - 0) (List.drop 0
 (List.map syntaxC p.items))).length : Int) - (↑(List.take ((List.map syntaxC p.items).length - (atI p.items + 1).toNat) (List.drop (atI p.items + 1).toNat (List.map syntaxC
 p.items))).length : Int))), (15, SV.one (AC.ref 4))]) (fun x => [Ob.dead, Ob.arr true 12 (List.map captureC (alO o (alM (gI B Ls) (List.take ((atI p.items - 1).toNat - 0)
 (List.drop 0 p.items)) (List.take ((↑(List.take ((atI p.items - 1).toNat - 0) (List.drop 0 (List.map syntaxC p.items))).length : Int).toNat - 0) (List.drop 0 f.items))))), Ob.box
 [vL (List.map bindingC B), vL (List.map syntaxC Ls)], Ob.box (vals (syntaxF f)), ho x 0]) [.o (Ob.arr true 12 (List.map captureC (rp (nI Ls (xI p)) (rI B Ls p f (mI2 p f)))))],
 .mk ((gI B Ls p f).isSome = false) .ret (fun x => [(8, hs x 0), (9, hs x 1)]) (fun x => [Ob.dead]) [.s (SV.one (AC.val (Cell.lit (Value.slice none 0 0)))), .s (lb false)]]
theorem Sc_iMat_sLb (B : List Binding) (Ls : List Syntax) (p : Syntax) (f : Syntax) (o : List Capture) (h : B.length ≤ 1048577 ∧ sumBy wB B ≤ 1048577 ∧ wY p ≤ 1048576 ∧ wY f ≤
 1000000000 ∧ o.length + sizeY p ≤ 2147483647 ∧ depY p ≤ 40) (hl : Ls.all litP = true) (hg : good Ls p) (ih : ∀ (z : Syntax), z ∈ p.items → ∀ (B : List Binding) (Ls : List Syntax)
 (f : Syntax) (o : List Capture), B.length ≤ 1048577 ∧ sumBy wB B ≤ 1048577 ∧ wY z ≤ 1048576 ∧ wY f ≤ 1000000000 ∧ o.length + sizeY z ≤ 2147483647 ∧ depY z ≤ 40 → Ls.all litP =
 true → good Ls z → OK (P_c_iMat B Ls z f o)) (k : Nat) : Lp.Sem Tryz.prog (loopAt Tryz.f111 1) (lc_iMat_sLb B Ls p f o k) := lpOK (fun k1 => let v1 := ((rpTo (nI Ls (xI p)) (rI B
 Ls p f k) (oneI B Ls p f k) k1).getD (↑k1 : Int).toNat default); let v2 := [cI 0, cI 0, cS (ByteArray.mk #[]), Cell.list [], Cell.list [], cI 0, cI 0, cI 0, cS (ByteArray.mk #[]),
 Cell.list [], Cell.list [], Cell.list []]; let v3 := (List.map captureC (rpTo (nI Ls (xI p)) (rI B Ls p f k) (oneI B Ls p f k) k1)); let v4 := ((oneI B Ls p f k).getD k1 default);
 let v5 := (List.map capX (List.take k1 (oneI B Ls p f k)) ++ List.map captureC (List.drop k1 (oneI B Ls p f k))); let v6 := [(↑k1 : Int).toNat, (↑k1 : Int).toNat, (↑k1 :
 Int).toNat, (↑k1 : Int).toNat, (↑k1 : Int).toNat]; let v7 := [cI v1.name.kind, cI v1.name.number, cS v1.name.text, Cell.list (List.map intC v1.name.scopes), Cell.list (List.map
 syntaxC v1.name.items), cI v1.depth, cI v1.form.kind, cI v1.form.number, cS v1.form.text, Cell.list (List.map intC v1.form.scopes), Cell.list (List.map syntaxC v1.form.items),
 Cell.any]; let v10 := (List.map captureC v1.each ++ [v2]); let v9 := (↑(List.map captureC v1.each).length : Int); let v8 := [cI v1.name.kind, cI v1.name.number, cS v1.name.text,
 Cell.list (List.map intC v1.name.scopes), Cell.list (List.map syntaxC v1.name.items), cI v1.depth, cI v1.form.kind, cI v1.form.number, cS v1.form.text, Cell.list (List.map intC
 v1.form.scopes), Cell.list (List.map syntaxC v1.form.items), Cell.list (v10.set v9.toNat (captureF v4))]; .i ((↑k1 : Int) < (↑(List.map captureC (rp (nI Ls (xI p)) (rI B Ls p f
 k))).length : Int)) (.w (.drawT 13 16 12 [(11, [5, 7]), (13, [6, 9]), (16, [9, 5])]) (.p (0 ≤ (↑k1 : Int) ∧ (↑k1 : Int).toNat < v3.length) (.w .sub (.p ((↑k1 : Int).toNat <
 v3.length) (.p (0 ≤ (↑k1 : Int) ∧ (↑k1 : Int).toNat < v5.length) (.w (.subs (captureF v4)) (.p (v5[(↑k1 : Int).toNat]? = some (captureF v4)) (.w (.cells (captureF v1)) (.p
 (v3[(↑k1 : Int).toNat]? = some (captureF v1)) (.w (.subcall (captureF v1) (List.map captureC v1.each) 12) (.p (v3[(↑k1 : Int).toNat]? = some (captureF v1)) (.p (some (Cell.list
 (List.map captureC v1.each)) = some (Cell.list (List.map captureC v1.each))) (.p (∀ (x : List Cell), x ∈ List.map captureC v1.each → x.length = 12) (.p (((List.map captureC
 v1.each).length + 1) * 192 ≤ 140737488355328) (.p (0 ≤ v9 ∧ v9.toNat < v10.length) (.w (.subs (captureF v4)) (.w (.cells v2) (.p (v6 = v6) (.p (v5[(↑k1 : Int).toNat]? = some
 (captureF v4)) (.p (v10[v9.toNat]? = some v2) (.p (0 ≤ (↑k1 : Int) ∧ (↑k1 : Int).toNat < (v3.set (↑k1 : Int).toNat v7).length) (.w (.take v7 (v3.set (↑k1 : Int).toNat v8) 0) (.p
 ((v3.set (↑k1 : Int).toNat v7)[(↑k1 : Int).toNat]? = some v7) (.p ((v3.set (↑k1 : Int).toNat v7).set (↑k1 : Int).toNat v8 = v3.set (↑k1 : Int).toNat v8) (.p (v9.toNat <
 v10.length) (.p ((↑k1 : Int).toNat < (v3.set (↑k1 : Int).toNat v7).length) (.z captureC v1.each (.r ((↑k1 : Int) + 1) (.g [0, 1, 2, 3, 4, 5, 6] (k1 + 1) [.s (li ((↑k1 : Int) +
 1)), .o (Ob.arr true 12 (v3.set (↑k1 : Int).toNat v8)), .o (Ob.arr true 12 (v5.set (↑k1 : Int).toNat [cI v4.name.kind, cI v4.name.number, cS v4.name.text, Cell.any, Cell.any, cI
 v4.depth, cI v4.form.kind, cI v4.form.number, cS v4.form.text, Cell.any, Cell.any, Cell.any]))]))))))))))))))))))))))))))))) (.o 0 [0, 1, 2, 3, 4, 5] [.o (Ob.arr true 12 v3)]))
 (by
  intro k1 h; try dsimp only [teasy, nthW, lc_iMat_sLb] at h ⊢
  have gl := rp_len (nI Ls (xI p)) (rI B Ls p f k)
  have g3 := rpTo_len (nI Ls (xI p)) (rI B Ls p f k) (oneI B Ls p f k) k1
  have gc := @oneI_len B Ls p f k
  have ge := @eachI_len B Ls p f k k1
  have gz := @eachI_end B Ls p f k k1
  with_reducible repeat' (first | apply And.intro | exact zR | (intro; skip))
  all_goals (try simp only [std, inj] at *)
  all_goals with_reducible repeat' apply And.intro
  all_goals (try (first | exact zw | exact List.set_set .. | exact one_getF (by grind) | exact one_step (by grind) | exact one_len (by grind) | exact each_step _ (by omega) | exact gz h.2.2.2.2.1 h.2.2.2.2.2.1 (by omega) | grind)))
theorem Sc_iMat_sLa (B : List Binding) (Ls : List Syntax) (p : Syntax) (f : Syntax) (o : List Capture) (h : B.length ≤ 1048577 ∧ sumBy wB B ≤ 1048577 ∧ wY p ≤ 1048576 ∧ wY f ≤
 1000000000 ∧ o.length + sizeY p ≤ 2147483647 ∧ depY p ≤ 40) (hl : Ls.all litP = true) (hg : good Ls p) (ih : ∀ (z : Syntax), z ∈ p.items → ∀ (B : List Binding) (Ls : List Syntax)
 (f : Syntax) (o : List Capture), B.length ≤ 1048577 ∧ sumBy wB B ≤ 1048577 ∧ wY z ≤ 1048576 ∧ wY f ≤ 1000000000 ∧ o.length + sizeY z ≤ 2147483647 ∧ depY z ≤ 40 → Ls.all litP =
 true → good Ls z → OK (P_c_iMat B Ls z f o)) : Lp.Sem Tryz.prog (loopAt Tryz.f111 0) (lc_iMat_sLa B Ls p f o) := lpOK (fun k => .i ((↑k : Int) < (↑(List.map syntaxC
 f.items).length : Int) - (↑(List.take ((atI p.items - 1).toNat - 0) (List.drop 0 (List.map syntaxC p.items))).length : Int) - (↑(List.take ((List.map syntaxC p.items).length -
 (atI p.items + 1).toNat) (List.drop (atI p.items + 1).toNat (List.map syntaxC p.items))).length : Int)) (.w (.draw []) (.r (atI p.items - 1) (.x (atI p.items - 1) (List.map
 syntaxC p.items) (syntaxF (p.items.getD (atI p.items - 1).toNat default)) (.r ((↑(List.take ((atI p.items - 1).toNat - 0) (List.drop 0 (List.map syntaxC p.items))).length : Int) +
 (↑k : Int)) (.x ((↑(List.take ((atI p.items - 1).toNat - 0) (List.drop 0 (List.map syntaxC p.items))).length : Int) + (↑k : Int)) (List.map syntaxC f.items) (syntaxF (f.items.getD
 ((List.take ((atI p.items - 1).toNat - 0) (List.drop 0 (List.map syntaxC p.items))).length + k) default)) (.d [.rd, .rd, .rd, .own true 12] (P_c_iMat B Ls (p.items.getD (atI
 p.items - 1).toNat default) (f.items.getD ((List.take ((atI p.items - 1).toNat - 0) (List.drop 0 (List.map syntaxC p.items))).length + k) default) []) (.h ((List.take ((atI
 p.items - 1).toNat - 0) (List.drop 0 (List.map syntaxC p.items))).length ≤ 9223372036854775807) (.b (!(gI B Ls (p.items.getD (atI p.items - 1).toNat default) (f.items.getD
 ((List.take ((atI p.items - 1).toNat - 0) (List.drop 0 (List.map syntaxC p.items))).length + k) default)).isSome) (.o 1 [0] [.s (SV.one (AC.val (Cell.lit (Value.slice none 0
 0)))), .s (lb false)]) (.z captureC (rp (nI Ls (xI p)) (rI B Ls p f k)) (.l (lc_iMat_sLb B Ls p f o k) (Sc_iMat_sLb B Ls p f o h hl hg ih k) [0, 1, 2, 3, 4, 5, 7] [.s (li 0), .o
 (Ob.arr true 12 (List.map captureC (rp (nI Ls (xI p)) (rI B Ls p f k)))), .o (Ob.arr true 12 (List.map captureC (smO (p.items.getD (atI p.items - 1).toNat default) [] (gI B Ls
 (p.items.getD (atI p.items - 1).toNat default) (f.items.getD ((List.take ((atI p.items - 1).toNat - 0) (List.drop 0 (List.map syntaxC p.items))).length + k) default)))))] 0 (.t
 (.r ((↑k : Int) + 1) (.g [0, 1, 2, 3, 4, 5] (k + 1) [.s (li ((↑k : Int) + 1)), .o (Ob.arr true 12 (List.map captureC (rp (nI Ls (xI p)) (rI B Ls p f (k + 1)))))])) .q)))))))))))
 (.o 0 [0, 1, 2, 4, 5] [.o (Ob.arr true 12 (List.map captureC (rp (nI Ls (xI p)) (rI B Ls p f k))))])) (by
  intro k h; try dsimp only [teasy, nthW, lc_iMat_sLa, lc_iMat_sLb] at h ⊢
  rename_i hh
  have gn := fI_nums h.2.1
  have gx := fI_x h.2.1 hg
  have e1 := pre_len h.2.1
  have e2 := post_len h.2.1
  have e3 := rI_len h.2.2
  have gl := len_w f
  have gs := nI_size (Ls := Ls) (xI p)
  have gt := sizeY_le (xI p)
  have g10 := rpTo_zero (nI Ls (xI p)) (rI B Ls p f k) (oneI B Ls p f k)
  have g12 := rp_len (nI Ls (xI p)) (rI B Ls p f k)
  have gw := @item_ok (aT p + k) f
  with_reducible repeat' (first | apply And.intro | exact zR | exact ih | (intro; skip))
  all_goals (try simp only [std, inj, e1, xI_def] at *)
  all_goals with_reducible repeat' apply And.intro
  all_goals (try (first | with_reducible apply ih))
  all_goals (try (first | exact zw | (have q := gw (by omega); omega) | exact round_none h.2.1 (by omega) h.2.2 (not_t ‹_›) | exact oneI_zero | exact not_f ‹_› | exact (rI_next h.2.2 (not_f ‹_›)).2 | exact qI_end (by omega) h.2.2 | exact rI_end (by omega) | grind)))
theorem c_iMat_s (B : List Binding) (Ls : List Syntax) (p f : Syntax) (o : List Capture) (h : B.length ≤ 1048577 ∧ sumBy wB B ≤ 1048577 ∧ wY p ≤ 1048576 ∧ wY f ≤ 1000000000 ∧
 o.length + sizeY p ≤ 2147483647 ∧ depY p ≤ 40) (hl : Ls.all litP = true) (hg : good Ls p) (ih : ∀ z ∈ p.items, ∀ (B : List Binding) (Ls : List Syntax) (f : Syntax) (o : List
 Capture) (h : B.length ≤ 1048577 ∧ sumBy wB B ≤ 1048577 ∧ wY z ≤ 1048576 ∧ wY f ≤ 1000000000 ∧ o.length + sizeY z ≤ 2147483647 ∧ depY z ≤ 40) (hl : Ls.all litP = true) (hg : good
 Ls z), P_c_iMat B Ls z f o)  : P_c_iMat B Ls p f o := fnOK Tryz.call111 Tryz.func111 (let v15 := (atI p.items - 1); let v14 := (List.map syntaxC p.items); let v7 := (↑(List.take
 (v15.toNat - 0) (List.drop 0 v14)).length : Int); let v11 := (↑(List.map syntaxC f.items).length : Int); let v17 := (atI p.items + 1); let v9 := (↑(List.take (v14.length -
 v17.toNat) (List.drop v17.toNat v14)).length : Int); let v1 := (v7 + (v11 - v7 - v9)); let v12 := (List.take (v15.toNat - 0) (List.drop 0 p.items)); let v18 := (List.take
 (v7.toNat - 0) (List.drop 0 f.items)); let v2 := (alM (gI B Ls) v12 v18); let v3 := (List.take (v14.length - v17.toNat) (List.drop v17.toNat p.items)); let v4 := ((List.take
 (v15.toNat - 0) (List.drop 0 v14)).length ≤ 9223372036854775807); let v26 := (AC.ref 1); let v5 := (AV.tup [SV.one v26, lb false]); let v6 := (0 ≤ v7 + (v11 - v7 - v9)); let v27
 := (List.take (v14.length - v17.toNat) (List.drop v17.toNat v14)); let v25 := (List.map syntaxC f.items); let v28 := (alO o v2 ++ rp (nI Ls (xI p)) (rI B Ls p f (mI2 p f))); let
 v13 := (List.take (v25.length - v1.toNat) (List.drop v1.toNat f.items)); let v21 := [Ob.dead, Ob.arr true 12 (List.map captureC (alO v28 (alM (gI B Ls) v3 v13)))]; let v24 :=
 (AV.tup [SV.one v26, lb (alM (gI B Ls) v3 v13).isSome]); let v8 := (CallOK Tryz.prog 194 [Ob.arr true 12 (List.map captureC (alO o v2) ++ List.map captureC (rp (nI Ls (xI p)) (rI
 B Ls p f (mI2 p f))))] [SV.agg [vL (List.map bindingC B), vL (List.map syntaxC Ls)], ll v27, ll (List.take (v25.length - v1.toNat) (List.drop v1.toNat v25)), SV.one (AC.ref 0)]
 v21 v24); let v10 := [Ob.dead, Ob.arr true 12 (List.map captureC o)]; let v16 := [Ob.dead, Ob.arr true 12 []]; let v19 := (CallOK Tryz.prog 194 [Ob.arr true 12 (List.map captureC
 o)] [SV.agg [vL (List.map bindingC B), vL (List.map syntaxC Ls)], ll (List.take (v15.toNat - 0) (List.drop 0 v14)), ll (List.take (v7.toNat - 0) (List.drop 0 v25)), SV.one (AC.ref
 0)] [Ob.dead, Ob.arr true 12 (List.map captureC (alO o v2))] (AV.tup [SV.one v26, lb v2.isSome])); let v20 := [Ob.dead, Ob.arr true 12 (List.map captureC o ++ [[cI p.kind, cI
 p.number, cS p.text, Cell.list (List.map intC p.scopes), Cell.list v14, cI 0, cI f.kind, cI f.number, cS f.text, Cell.list (List.map intC f.scopes), Cell.list v25, Cell.list
 []]])]; let v22 := (((List.map captureC (alO o v2)).length + (List.map captureC (rp (nI Ls (xI p)) (rI B Ls p f (mI2 p f)))).length) * 192 ≤ 140737488355328); let v23 :=
 (p.items.getD v15.toNat default); let v29 := [(6, [4, 5, 12, 13]), (7, [0, 20])]; let v30 := [Ob.dead, Ob.arr true 12 (List.map captureC (alO o (alM (gI B Ls) p.items f.items)))];
 let v31 := (((List.map captureC o).length + 1) * 192 ≤ 140737488355328); let v32 := (Ob.arr true 12 (List.map captureC ((vrI Ls v23 1 []).getD []))); .c [.rd] (c_iWild p) (.b
 (decide (p.kind = 1) && isUnd p) (.w (.ghost (.move 0)) (.f [4] v10 (AV.tup [SV.one v26, lb true]))) (.i (p.kind = 1) (.c [.rd, .rd] (c_iHasJ Ls p) (.b (hasJ Ls p) (.i (f.kind =
 1) (.d [.rd, .rd, .rd] (P_c_iMean B p f) (.w (.ghost (.move 0)) (.f [4] v10 (AV.tup [SV.one v26, lb (mng B p f)])))) (.w (.ghost (.move 0)) (.f [4] v10 v5))) (.i (p.kind = 1) (.w
 (.draw v29) (.d [.rd] (P_c_iCopyY p) (.d [.rd] (P_c_iCopyY f) (.p v31 (.f [21] v20 (AV.tup [SV.one v26, lb true])))))) (.i (p.kind ≠ 0) (.w (.draw []) (.i (f.kind = p.kind) (.i
 (f.number = p.number) (.w (.ghost (.move 0)) (.f [4] v10 (AV.tup [SV.one v26, lb (decide (f.text.data.toList = p.text.data.toList))]))) (.w (.ghost (.move 0)) (.f [4] v10 v5)))
 (.y false (.w (.ghost (.move 0)) (.f [4] v10 v5))))) (.i (f.kind ≠ 0) (.w (.ghost (.nilreg 8 true 12)) (.w (.ghost (.move 0)) (.f [4] v16 v5))) (.c [.rd] (c_iAt p.items) (.i (atI
 p.items < 0) (.z syntaxC p.items (.z syntaxC f.items (.i ((↑(List.map syntaxC p.items).length : Int) ≠ v11) (.w (.ghost (.nilreg 8 true 12)) (.w (.ghost (.move 0)) (.f [4] v16
 v5))) (.d [.rd, .rd, .rd, .own true 12] (P_c_iAll B Ls p.items f.items o) (.f [5] v30 (AV.tup [SV.one v26, lb (alM (gI B Ls) p.items f.items).isSome])))))) (.r v15 (.p (0 ≤ atI
 p.items - 1) (.p (0 ≤ v15.toNat ∧ v15.toNat ≤ v14.length ∧ ∀ (e : List Cell), e ∈ List.map syntaxC p.items → e.length = 5) (.r v17 (.p (0 ≤ atI p.items + 1) (.p (v17.toNat ≤
 v14.length ∧ v14.length ≤ v14.length ∧ ∀ (e : List Cell), e ∈ List.map syntaxC p.items → e.length = 5) (.z syntaxC f.items (.h v4 (.r (v11 - v7) (.h (v27.length ≤
 9223372036854775807) (.r (v11 - v7 - v9) (.i (v11 - v7 - v9 < 0) (.w (.ghost (.nilreg 8 true 12)) (.w (.ghost (.move 0)) (.f [4] v16 v5))) (.w (.draw [(8, [0])]) (.p (0 ≤ v7) (.p
 (0 ≤ v7.toNat ∧ v7.toNat ≤ v25.length ∧ ∀ (e : List Cell), e ∈ List.map syntaxC f.items → e.length = 5) (.u [.rd, .rd, .rd, .own true 12] (P_c_iAll B Ls v12 v18 o) (.p v19 (.h v4
 (.b (!(alM (gI B Ls) v12 v18).isSome) (.w (.ghost (.nilreg 8 true 12)) (.f [6] v16 v5)) (.w (.draw []) (.r v15 (.x v15 v14 (syntaxF v23) (.d [.rd, .rd, .rd, .own true 12]
 (P_c_iVars Ls v23 1 []) (.l (lc_iMat_sLa B Ls p f o) (Sc_iMat_sLa B Ls p f o h hl hg ih) [0, 5, 1, 2, 3, 7] [.s (li 0), .o v32] 0 (.t (.p v22 (.w (.draw [(10, [5])]) (.r v1 (.p v6
 (.p (v1.toNat ≤ v25.length ∧ v25.length ≤ v25.length ∧ ∀ (e : List Cell), e ∈ List.map syntaxC f.items → e.length = 5) (.u [.rd, .rd, .rd, .own true 12] (P_c_iAll B Ls v3 v13 v28)
 (.p v8 (.h v4 (.f [7] v21 v24))))))))) (.t (.w (.ghost (.nilreg 8 true 12)) (.f [1] v16 v5)) .q))))))))))))))))))))))))))))))))) (.y false (.i (p.kind = 1) (.w (.draw v29) (.d
 [.rd] (P_c_iCopyY p) (.d [.rd] (P_c_iCopyY f) (.p v31 (.f [21] v20 (AV.tup [SV.one v26, lb true])))))) (.i (p.kind ≠ 0) (.w (.draw []) (.i (f.kind = p.kind) (.i (f.number =
 p.number) (.w (.ghost (.move 0)) (.f [4] v10 (AV.tup [SV.one v26, lb (decide (f.text.data.toList = p.text.data.toList))]))) (.w (.ghost (.move 0)) (.f [4] v10 v5))) (.y false (.w
 (.ghost (.move 0)) (.f [4] v10 v5))))) (.i (f.kind ≠ 0) (.w (.ghost (.nilreg 8 true 12)) (.w (.ghost (.move 0)) (.f [4] v16 v5))) (.c [.rd] (c_iAt p.items) (.i (atI p.items < 0)
 (.z syntaxC p.items (.z syntaxC f.items (.i ((↑(List.map syntaxC p.items).length : Int) ≠ v11) (.w (.ghost (.nilreg 8 true 12)) (.w (.ghost (.move 0)) (.f [4] v16 v5))) (.d [.rd,
 .rd, .rd, .own true 12] (P_c_iAll B Ls p.items f.items o) (.f [5] v30 (AV.tup [SV.one v26, lb (alM (gI B Ls) p.items f.items).isSome])))))) (.r v15 (.p (0 ≤ atI p.items - 1) (.p
 (0 ≤ v15.toNat ∧ v15.toNat ≤ v14.length ∧ ∀ (e : List Cell), e ∈ List.map syntaxC p.items → e.length = 5) (.r v17 (.p (0 ≤ atI p.items + 1) (.p (v17.toNat ≤ v14.length ∧
 v14.length ≤ v14.length ∧ ∀ (e : List Cell), e ∈ List.map syntaxC p.items → e.length = 5) (.z syntaxC f.items (.h v4 (.r (v11 - v7) (.h (v27.length ≤ 9223372036854775807) (.r (v11
 - v7 - v9) (.i (v11 - v7 - v9 < 0) (.w (.ghost (.nilreg 8 true 12)) (.w (.ghost (.move 0)) (.f [4] v16 v5))) (.w (.draw [(8, [0])]) (.p (0 ≤ v7) (.p (0 ≤ v7.toNat ∧ v7.toNat ≤
 v25.length ∧ ∀ (e : List Cell), e ∈ List.map syntaxC f.items → e.length = 5) (.u [.rd, .rd, .rd, .own true 12] (P_c_iAll B Ls v12 v18 o) (.p v19 (.h v4 (.b (!(alM (gI B Ls) v12
 v18).isSome) (.w (.ghost (.nilreg 8 true 12)) (.f [6] v16 v5)) (.w (.draw []) (.r v15 (.x v15 v14 (syntaxF v23) (.d [.rd, .rd, .rd, .own true 12] (P_c_iVars Ls v23 1 []) (.l
 (lc_iMat_sLa B Ls p f o) (Sc_iMat_sLa B Ls p f o h hl hg ih) [0, 5, 1, 2, 3, 7] [.s (li 0), .o v32] 0 (.t (.p v22 (.w (.draw [(10, [5])]) (.r v1 (.p v6 (.p (v1.toNat ≤ v25.length
 ∧ v25.length ≤ v25.length ∧ ∀ (e : List Cell), e ∈ List.map syntaxC f.items → e.length = 5) (.u [.rd, .rd, .rd, .own true 12] (P_c_iAll B Ls v3 v13 v28) (.p v8 (.h v4 (.f [7] v21
 v24))))))))) (.t (.w (.ghost (.nilreg 8 true 12)) (.f [1] v16 v5)) .q))))))))))))))))))))))))))))))))))) (by
  dsimp only [teasy, P_c_iMat, nthW, lc_iMat_sLa]
  have g1 := @gI_wild B Ls p f o
  have g2 := @gI_lit B Ls p f o
  have g3 := @gI_sym B Ls p f o
  have g4 := @gI_other B Ls p f o
  have g6 := @gI_flat2 B Ls p f o
  have g14 := @good_flat Ls p hg
  have g19 := wY_eq f
  have g20 := wY_eq p
  have g21 := sizeY_eq p
  have g22 := capF_snoc o p f
  with_reducible repeat' (first | apply And.intro | exact zR | (intro; skip) | apply c_iWild | apply c_iHasJ | apply c_iMean | apply c_iCopyY | apply c_iAt | apply c_iAll | apply c_iVars)
  all_goals (try simp only [std, inj] at *)
  all_goals with_reducible repeat' apply And.intro
  all_goals (try (first | with_reducible apply c_iMean | with_reducible apply c_iCopyY | with_reducible apply c_iAll | with_reducible apply c_iVars | (simp only [← List.map_append]; with_reducible apply c_iAll)))
  all_goals (try (
    have hf := fI_mk hg ‹_› ‹_› ‹_› ‹_›
    have e1 := pre_len' hf
    have e2 := post_nat hf
    have e3 := cnt_eq hf
    simp only [aT_def, e1, e2, e3, take_drop_len, xI_def, xI_def2, add_nat] at *
    have gn := fI_nums hf
    have gx := fI_x hf hg
    have pl := parts_le (fI_at hf).2.2.1 (fI_at hf).2.2.2.1
    have s1 := sumf f (aT p)
    have s2 := sumf f (aT p + mI2 p f)
    have s3 := @alO_len B Ls o (List.take (aT p) p.items) (List.take (aT p) f.items)
    have s4 := nI_size (Ls := Ls) (xI p)
    have s5 := rp_len (nI Ls (xI p)) (rI B Ls p f (mI2 p f))))
  all_goals with_reducible repeat' apply And.intro
  all_goals (try (first | exact zw | (have q := atI_of hg (Decidable.not_not.1 ‹¬¬p.kind = 0›); omega) | exact (kind_of ‹_› ‹_›).1 | exact (kind_of (o := o) ‹_› ‹_›).2 | exact (flat_no ‹_› ‹_› ‹_› ‹_›).1 | exact (flat_no (o := o) ‹_› ‹_› ‹_› ‹_›).2 | exact (few_of hg ‹_› ‹_› ‹_› ‹_›).1 | exact (few_of (o := o) hg ‹_› ‹_› ‹_› ‹_›).2 | exact iI_o1 ‹_› ‹_› ‹_› ‹_› | exact (pre_no hf ‹_›).1 | exact (pre_no (o := o) hf ‹_›).2 | exact (some_no ‹_› ‹_›).1 | exact (some_no (o := o) ‹_› ‹_›).2 | exact (all_do hf ‹_› ‹_›).1 | exact (all_do (o := o) hf ‹_› ‹_›).2 | exact vr_start hl hg hf | exact good_pre hg (fI_at hf).1 (fI_at hf).2.2.1 (fI_at hf).2.2.2.1 (by omega) | exact good_post hg (fI_at hf).1 (fI_at hf).2.2.1 (fI_at hf).2.2.2.1 (by omega) | (simp only [List.length_append, List.length_take, List.length_drop, List.length_nil] at *; omega) | rfl | grind)))
theorem c_iMat (p : Syntax) : ∀ (B : List Binding) (Ls : List Syntax) (f : Syntax) (o : List Capture) (h : B.length ≤ 1048577 ∧ sumBy wB B ≤ 1048577 ∧ wY p ≤ 1048576 ∧ wY f ≤ 1000000000 ∧ o.length + sizeY p ≤ 2147483647 ∧ depY p ≤ 40) (hl : Ls.all litP = true) (hg : good Ls p), P_c_iMat B Ls p f o := Syntax.ind (P := fun p => ∀ (B : List Binding) (Ls : List Syntax) (f : Syntax) (o : List Capture) (h : B.length ≤ 1048577 ∧ sumBy wB B ≤ 1048577 ∧ wY p ≤ 1048576 ∧ wY f ≤ 1000000000 ∧ o.length + sizeY p ≤ 2147483647 ∧ depY p ≤ 40) (hl : Ls.all litP = true) (hg : good Ls p), P_c_iMat B Ls p f o) (fun p ih B Ls f o h hl hg => c_iMat_s B Ls p f o h hl hg ih) p
theorem mt_top {B : List Binding} {Ls : List Syntax} {p f : Syntax} (hL : okL Ls = true) (hp : isSyn p = true) (hv : (vrS Ls p 0 []).isSome = true) : gI B Ls p f = gS B Ls p f ∧ Ls.all litP = true := by
  simp only [okL, Bool.and_eq_true] at hL
  exact ⟨((mt_same (M := mng B) (List.all_eq_true.1 hL.1) p (mt_good hp hv).1).1 f).symm, hL.1⟩
theorem mt_out {B : List Binding} {Ls : List Syntax} {p f : Syntax} (h1 : areB B = true) (h2 : isSyn f = true) (h3 : okL Ls = true) (h4 : isSyn p = true) (h5 : (vrS Ls p 0 []).isSome = true) : smO p [] (gI B Ls p f) = mtO B Ls p f := by
  rw [(mt_top (B := B) (f := f) h3 h4 h5).1, smO_nil]
  unfold mtO mtB
  cases e : gS B Ls p f with
  | none => simp
  | some c => simp [h1, h2, h3, h4, h5]
abbrev P_c_iMatch (B : List Binding) (Ls : List Syntax) (p : Syntax) (f : Syntax) : Ct := ⟨40, [], [ll (B.map bindingC), ll (Ls.map syntaxC), syntaxA p, syntaxA f], [.arr true 12 ((mtO B Ls p f).map captureC)], .tup [.one (.ref 0), lb (mtB B Ls p f)]⟩
theorem c_iMatch (B : List Binding) (Ls : List Syntax) (p f : Syntax) (h : B.length ≤ 1048577 ∧ sumBy wB B ≤ 1048577 ∧ wY p ≤ 1048576 ∧ wY f ≤ 1000000000)  : P_c_iMatch B Ls p f :=
 fnOK Tryz.call40 Tryz.func40 (.c [.rd] (c_iAre B) (.b (!areB B) (.y true (.w (.ghost (.nilreg 8 true 12)) (.f [2] [Ob.arr true 12 []] (AV.tup [SV.one (AC.ref 0), lb false])))) (.c
 [.rd] (c_iIsSyntax f) (.b (!isSyn f) (.w (.ghost (.nilreg 8 true 12)) (.f [2] [Ob.arr true 12 []] (AV.tup [SV.one (AC.ref 0), lb false]))) (.d [.rd, .rd] (P_c_iPat Ls p) (.b
 (!(okL Ls && isSyn p && (vrS Ls p 0 []).isSome)) (.w (.ghost (.nilreg 8 true 12)) (.f [3] [Ob.arr true 12 []] (AV.tup [SV.one (AC.ref 0), lb false]))) (.d [.rd, .rd, .rd, .own
 true 12] (P_c_iMat B Ls p f []) (.f [4] [Ob.arr true 12 (List.map captureC (smO p [] (gI B Ls p f)))] (AV.tup [SV.one (AC.ref 0), lb (gI B Ls p f).isSome]))))))))) (by
  dsimp only [teasy, P_c_iMatch]
  have g1 := @mt_good Ls p
  have g2 := @smO_nil p (gS B Ls p f)
  have g3 := @mt_top B Ls p f
  have g4 := @mt_out B Ls p f
  with_reducible repeat' (first | apply And.intro | exact zR | (intro; skip) | apply c_iPat | apply c_iMat)
  all_goals (try simp only [std, inj] at *)
  all_goals with_reducible repeat' apply And.intro
  all_goals (try (first | with_reducible apply c_iPat | with_reducible apply c_iMat | (simp only [← List.map_append]; first | with_reducible apply c_iPat | with_reducible apply c_iMat)))
  all_goals (try (first | exact z | grind [mtB, mtO, snocI, snocS, rowSnoc])))
end Go.Proofs.YtpnaoendfpaodaaGreat
end
section
namespace Go.Proofs.YtpnaoendfpaodaaGreat
open Go Go.Proofs.YtpnaoendfpaodaaGreat.Ab
set_option linter.unusedVariables false
set_option linter.unusedSimpArgs false
theorem sumBy_congr {α : Type} {f g : α → Nat} : ∀ {L : List α}, (∀ x ∈ L, f x = g x) → sumBy f L = sumBy g L
  | [], _ => rfl
  | x :: r, h => by simp only [sumBy]; rw [h x List.mem_cons_self, sumBy_congr fun y hy => h y (List.mem_cons_of_mem _ hy)]
theorem sumBy_plus {α : Type} (f g : α → Nat) : ∀ L : List α, sumBy (fun x => f x + g x) L = sumBy f L + sumBy g L
  | [] => rfl
  | x :: r => by simp only [sumBy]; rw [sumBy_plus f g r]; omega
theorem sumBy_swap {α β : Type} (F : α → β → Nat) : ∀ (I : List α) (R : List β), sumBy (fun i => sumBy (F i) R) I = sumBy (fun c => sumBy (fun i => F i c) I) R
  | [], R => by
    simp only [sumBy]
    induction R with
    | nil => rfl
    | cons c R ih => simp only [sumBy]; omega
  | i :: I, R => by
    simp only [sumBy]
    rw [sumBy_plus (F i) (fun c => sumBy (fun i => F i c) I) R, sumBy_swap F I R]
theorem sumBy_mapF {α β : Type} (f : β → Nat) (g : α → β) : ∀ L : List α, sumBy f (L.map g) = sumBy (fun x => f (g x)) L
  | [] => rfl
  | x :: r => by simp only [List.map_cons, sumBy]; rw [sumBy_mapF f g r]
theorem sumBy_idx {α : Type} [Inhabited α] (f : α → Nat) (L : List α) : sumBy (fun i => f (L.getD i default)) (List.range L.length) = sumBy f L := by
  rw [← sumBy_mapF f (fun i => L.getD i default)]
  congr 1
  apply List.ext_getElem?
  intro j
  simp only [List.getElem?_map, List.getD_eq_getElem?_getD]
  by_cases h : j < L.length
  · rw [List.getElem?_range h]; simp [h]
  · rw [List.getElem?_eq_none (by simpa using h), List.getElem?_eq_none (by simpa using h)]; rfl
theorem sumBy_len1 {α : Type} (f : α → Nat) : ∀ L : List α, sumBy (fun x => 1 + f x) L = L.length + sumBy f L
  | [] => rfl
  | x :: r => by simp only [sumBy, List.length_cons]; rw [sumBy_len1 f r]; omega
def sP (L : List Capture) : Nat := sumBy (fun c => 1 + wP c) L
theorem sP_append (A B : List Capture) : sP (A ++ B) = sP A + sP B := sumBy_append _ A B
theorem sP_eq (L : List Capture) : sP L = L.length + sumBy wP L := sumBy_len1 wP L
theorem wP_each (n f : Syntax) (d : Int) (e : List Capture) : wP ⟨n, d, f, e⟩ = wY n + wY f + sP e := by rw [wP_eq, sP_eq]
theorem wP_more (x : Capture) (e : List Capture) : wP ⟨x.name, x.depth, x.form, x.each ++ e⟩ = wP x + sP e := by
  have h : wP x = wY x.name + wY x.form + sP x.each := by cases x; exact wP_each _ _ _ _
  rw [wP_each, sP_append, h]; omega
theorem sP_rp (V : List Capture) (R : List (List Capture)) (h : ∀ c ∈ R, c.length = V.length) : sP (rp V R) = sP V + sumBy sP R := by
  have e1 : sP (rp V R) = sumBy (fun i => (1 + wP (V.getD i default)) + sumBy (fun c => 1 + wP (c.getD i default)) R) (List.range V.length) := by
    unfold sP rp
    rw [sumBy_mapF]
    refine sumBy_congr fun i _ => ?_
    rw [wP_more]
    unfold sP
    rw [sumBy_mapF]; omega
  rw [e1, sumBy_plus, sumBy_idx (fun c => 1 + wP c) V, sumBy_swap (fun i c => 1 + wP (List.getD c i default)) (List.range V.length) R]
  show sP V + _ = _
  congr 1
  refine sumBy_congr fun c hc => ?_
  show sumBy (fun i => (fun x => 1 + wP x) (c.getD i default)) (List.range V.length) = sP c
  rw [← h c hc]; exact sumBy_idx (fun x => 1 + wP x) c
def sY (L : List Syntax) : Nat := sumBy (fun x => 1 + wY x) L
theorem sY_le (x : Syntax) : sY x.items ≤ wY x := by
  have := wY_eq x
  unfold sY; rw [sumBy_len1]; omega
theorem nms_w {H : Syntax → Bool} {A : List Syntax → Int} : ∀ (l : List Syntax), (∀ x ∈ l, ∀ d, sP (nm H A x d) ≤ 1 + wY x) → ∀ i a d, sP (nms H A l i a d) ≤ sY l
  | [], _, i, a, d => by simp [nms, sP, sY, sumBy]
  | x :: r, h, i, a, d => by
    have ih := nms_w r (fun y hy => h y (List.mem_cons_of_mem _ hy)) (i + 1) a d
    simp only [nms, sP_append]
    have e : sY (x :: r) = (1 + wY x) + sY r := rfl
    rw [e]
    have := h x List.mem_cons_self (if i + 1 = a then d + 1 else d)
    split
    · simp only [sP, sumBy] at *; omega
    · omega
theorem nm_w (H : Syntax → Bool) (A : List Syntax → Int) : ∀ (p : Syntax) (d : Int), sP (nm H A p d) ≤ 1 + wY p := by
  refine Syntax.ind fun p ih d => ?_
  rw [nm_eq]
  split
  · split
    · simp [sP, sumBy]
    · have : wP (cap1 p d) = wY p + 0 + sP [] := wP_each p ⟨0, 0, mkS [], [], []⟩ d []
      simp only [sP, sumBy] at this ⊢; omega
  · split
    · have := nms_w p.items (fun x hx d => ih x hx d) 0 (A p.items) d
      have := sY_le p; omega
    · simp [sP, sumBy]
theorem mtr_w {g : Syntax → Option (List Capture)} {w n : Nat} : ∀ (L : List Syntax) (R : List (List Capture)), (∀ f c, g f = some c → sP c ≤ (1 + w) * (1 + wY f) ∧ c.length = n) → mtr g L = some R → sumBy sP R ≤ (1 + w) * sY L ∧ ∀ c ∈ R, c.length = n
  | [], R, _, e => by simp only [mtr, Option.some.injEq] at e; subst e; simp [sumBy]
  | f :: L, R, h, e => by
    simp only [mtr] at e
    split at e
    · cases e
    · rename_i c h1
      split at e
      · cases e
      · rename_i R1 h2
        simp only [Option.some.injEq] at e; subst e
        have ih := mtr_w L R1 h h2
        have hc := h f c h1
        have e2 : sY (f :: L) = (1 + wY f) + sY L := rfl
        refine ⟨?_, ?_⟩
        · rw [e2, Nat.mul_add]; simp only [sumBy]; omega
        · intro c' hc'
          rcases List.mem_cons.1 hc' with h3 | h3
          · rw [h3]; exact hc.2
          · exact ih.2 c' h3
theorem sY_take (L : List Syntax) (k : Nat) : sY (L.take k) ≤ sY L := sumBy_takeLe _ L k
theorem sY_drop (L : List Syntax) (k : Nat) : sY (L.drop k) ≤ sY L := by
  have e : sY (L.take k ++ L.drop k) = sY L := by rw [List.take_append_drop]
  have e2 : sY (L.take k ++ L.drop k) = sY (L.take k) + sY (L.drop k) := sumBy_append _ _ _
  omega
theorem sY_first (L : List Syntax) : wY (L.getD 0 default) ≤ sY L := by
  cases L with
  | nil => exact Nat.zero_le _
  | cons x r => show wY x ≤ (1 + wY x) + sY r; omega
theorem mts_w {M : Syntax → Syntax → Bool} {H : Syntax → Bool} {A : List Syntax → Int} : ∀ (l : List Syntax), (∀ x ∈ l, ∀ f c, mt M H A x f = some c → sP c ≤ (1 + wY x) * (1 + wY f)) → ∀ i a m fs c, mts M H A l i a m fs = some c → sP c ≤ sY l * (1 + sY fs)
  | [], _, i, a, m, fs, c, e => by simp only [mts, Option.some.injEq] at e; subst e; simp [sP, sumBy]
  | x :: r, h, i, a, m, fs, c, e => by
    have ih := fun i a m fs c e => mts_w r (fun y hy => h y (List.mem_cons_of_mem _ hy)) i a m fs c e
    have e2 : sY (x :: r) = (1 + wY x) + sY r := rfl
    rw [e2, Nat.add_mul]
    simp only [mts] at e
    split at e
    · have := ih _ _ _ _ _ e; omega
    · split at e
      · split at e
        · cases e
        · rename_i R hR
          split at e
          · cases e
          · rename_i c' hc
            simp only [Option.some.injEq] at e; subst e
            have h1 := ih _ _ _ _ _ hc
            have h2 := mtr_w (w := wY x) (n := (nm H A x 1).length) _ R (fun f c hfc => ⟨h x List.mem_cons_self f c hfc, by rw [nm_len1]; exact mt_len _ _ _ hfc⟩) hR
            have h3 := nm_w H A x 1
            have h4 := sP_rp _ R h2.2
            have h5 : sY r * (1 + sY (fs.drop m)) ≤ sY r * (1 + sY fs) := Nat.mul_le_mul_left _ (by have := sY_drop fs m; omega)
            have h6 : (1 + wY x) * sY (fs.take m) ≤ (1 + wY x) * sY fs := Nat.mul_le_mul_left _ (sY_take fs m)
            have h7 : (1 + wY x) * (1 + sY fs) = (1 + wY x) + (1 + wY x) * sY fs := by rw [Nat.mul_add, Nat.mul_one]
            rw [sP_append, h4, h7]
            have h8 := h2.1
            omega
      · split at e
        · cases e
        · rename_i c1 h1
          split at e
          · cases e
          · rename_i c' hc
            simp only [Option.some.injEq] at e; subst e
            have h2 := ih _ _ _ _ _ hc
            have h3 := h x List.mem_cons_self _ _ h1
            have h5 : sY r * (1 + sY (fs.drop 1)) ≤ sY r * (1 + sY fs) := Nat.mul_le_mul_left _ (by have := sY_drop fs 1; omega)
            have h6 : (1 + wY x) * (1 + wY (fs.getD 0 default)) ≤ (1 + wY x) * (1 + sY fs) := Nat.mul_le_mul_left _ (by have := sY_first fs; omega)
            rw [sP_append]; omega
theorem mt_w {M : Syntax → Syntax → Bool} {H : Syntax → Bool} {A : List Syntax → Int} : ∀ (p f : Syntax) (c : List Capture), mt M H A p f = some c → sP c ≤ (1 + wY p) * (1 + wY f) := by
  refine Syntax.ind fun p ih f c e => ?_
  have h1 : 1 ≤ (1 + wY p) * (1 + wY f) := Nat.mul_le_mul (Nat.le_add_right 1 (wY p)) (Nat.le_add_right 1 (wY f))
  have h2 : 1 + wY p + wY f ≤ (1 + wY p) * (1 + wY f) := by rw [Nat.add_mul, Nat.mul_add, Nat.mul_add]; omega
  rw [mt_eq] at e
  split at e
  · split at e
    · simp only [Option.some.injEq] at e; subst e; simp only [sP, sumBy]; omega
    · split at e
      · split at e
        · simp only [Option.some.injEq] at e; subst e; simp only [sP, sumBy]; omega
        · cases e
      · simp only [Option.some.injEq] at e; subst e
        have : wP (capF p f) = wY p + wY f + sP [] := wP_each p f 0 []
        simp only [sP, sumBy] at this ⊢; omega
  · split at e
    · split at e
      · have h3 := mts_w p.items (fun x hx f c e => ih x hx f c e) _ _ _ _ _ e
        have h4 : sY p.items * (1 + sY f.items) ≤ (1 + wY p) * (1 + wY f) := Nat.mul_le_mul (by have := sY_le p; omega) (by have := sY_le f; omega)
        omega
      · cases e
    · split at e
      · simp only [Option.some.injEq] at e; subst e; simp only [sP, sumBy]; omega
      · cases e
theorem mt_c {M : Syntax → Syntax → Bool} {H : Syntax → Bool} {A : List Syntax → Int} {p f : Syntax} {c : List Capture} (h : mt M H A p f = some c) : sumBy cP c ≤ 16 * ((1 + wY p) * (1 + wY f)) ∧ c.length ≤ (1 + wY p) * (1 + wY f) := by
  have h1 := mt_w _ _ _ h
  have h2 := sumBy_le16 c fun y _ => cP_le y
  rw [sP_eq] at h1
  omega
end Go.Proofs.YtpnaoendfpaodaaGreat
end
section
namespace Go.Proofs.YtpnaoendfpaodaaGreat
open Go Go.Proofs.YtpnaoendfpaodaaGreat.Ab
set_option linter.unusedVariables false
set_option linter.unusedSimpArgs false
set_option maxHeartbeats 4000000
abbrev P_c_markIntS (L : List Int) (n : Int) : Ct := ⟨80, [.arr true 1 (L.map intC)], [.one (.ref 0), li n], [.arr true 1 ((seqM mkI cOne L n).map intC)], .sv (li (n + L.length))⟩
def lc_markIntSLa (L : List Int) (n : Int) : Lp Nat := .mk 19 1 (fun x => [(0, SV.one (AC.ref 0)), (1, hs x 1), (5, hs x 0)]) (fun x => [ho x 2]) (fun k => [.s (li (↑k : Int)), .s
 (li (n + (↑k : Int))), .o (Ob.arr true 1 (List.map intC (mkTo mkI cOne L n k)))]) (fun k => k ≤ L.length ∧ L.length ≤ 9223372036854775807) (fun k => L.length - k) [.mk True (.exit
 0) (fun x => [(1, hs x 0)]) (fun x => [ho x 1]) [.s (li (n + (↑L.length : Int))), .o (Ob.arr true 1 (List.map intC (seqM mkI cOne L n)))]]
theorem Sc_markIntSLa (L : List Int) (n : Int) (h0 : 0 ≤ n) (h : n + (↑L.length : Int) ≤ 100000000000000) : Lp.Sem Tryz.prog (loopAt Tryz.f80 0) (lc_markIntSLa L n) := lpOK (fun k
 => .z intC (mkTo mkI cOne L n k) (.i ((↑k : Int) < (↑(List.map intC (mkTo mkI cOne L n k)).length : Int)) (.p (0 ≤ (↑k : Int) ∧ (↑k : Int).toNat < (List.map intC (mkTo mkI cOne L
 n k)).length) (.w (.cells (intC (L.getD (↑k : Int).toNat default))) (.p ((List.map intC (mkTo mkI cOne L n k))[(↑k : Int).toNat]? = some [cI (L.getD (↑k : Int).toNat 0)]) (.r (n +
 (↑k : Int) + 1) (.r ((↑k : Int) + 1) (.g [0] (k + 1) [.s (li ((↑k : Int) + 1)), .s (li (n + (↑k : Int) + 1)), .o (Ob.arr true 1 ((List.map intC (mkTo mkI cOne L n k)).set (↑k :
 Int).toNat [cI (n + (↑k : Int))]))])))))) (.o 0 [0] [.s (li (n + (↑k : Int))), .o (Ob.arr true 1 (List.map intC (mkTo mkI cOne L n k)))]))) (by
  intro k h; try dsimp only [teasy, nthW, lc_markIntSLa] at h ⊢
  with_reducible repeat' (first | apply And.intro | exact zR | (intro; skip))
  all_goals (try simp only [std, stdM, inj] at *)
  all_goals with_reducible repeat' apply And.intro
  all_goals (try (first | exact z | ((first | refine rowGet ?_ | refine getC ?_ rfl); (first | omega | (simp only [std, stdM]; omega) | grind)) | (refine set_row ?_; (simp only [List.length_map, List.length_set, mkTo_len]; omega)) | (refine mkToRow ?_; (first | omega | (simp only [std, stdM]; omega) | grind)) | (refine mkTo_row ?_ rfl; (first | omega | (simp only [std, stdM]; omega) | grind)) | (refine mkTo_step ?_ ?_; (first | omega | (simp only [std, stdM]; omega) | grind); (first | grind [mkTo_all, mkI, cOne_take, intC, mkTo_get, snocI, snocS, rowSnoc])) | grind [mkTo_all, mkI, cOne_take, intC, mkTo_get, snocI, snocS, rowSnoc])))
theorem c_markIntS (L : List Int) (n : Int) (h0 : 0 ≤ n) (h : n + L.length ≤ 100000000000000)  : P_c_markIntS L n := fnOK Tryz.call80 Tryz.func80 (.l (lc_markIntSLa L n)
 (Sc_markIntSLa L n h0 h) [0] [.s (li 0), .s (li n), .o (Ob.arr true 1 (List.map intC L))] 0 (.t (.f [] [Ob.arr true 1 (List.map intC (seqM mkI cOne L n))] (AV.sv (li (n +
 (↑L.length : Int))))) .q)) (by
  dsimp only [teasy, P_c_markIntS, nthW, lc_markIntSLa]
  with_reducible repeat' (first | apply And.intro | exact zR | (intro; skip))
  all_goals (try simp only [std, stdM, inj] at *)
  all_goals with_reducible repeat' apply And.intro
  all_goals (try (first | exact z | ((first | refine rowGet ?_ | refine getC ?_ rfl); (first | omega | (simp only [std, stdM]; omega) | grind)) | (refine set_row ?_; (simp only [List.length_map, List.length_set, mkTo_len]; omega)) | (refine mkToRow ?_; (first | omega | (simp only [std, stdM]; omega) | grind)) | (refine mkTo_row ?_ rfl; (first | omega | (simp only [std, stdM]; omega) | grind)) | (refine mkTo_step ?_ ?_; (first | omega | (simp only [std, stdM]; omega) | grind); (first | grind [mkTo_zero, snocI, snocS, rowSnoc])) | grind [mkTo_zero, snocI, snocS, rowSnoc])))
abbrev P_c_markText (n : Int) : Ct := ⟨95, [], [li n], [], .sv (ls (mText n))⟩
def lc_markTextLa (n : Int) : Lp (Int × List UInt8) := .mk 20 0 (fun x => [(0, hs x 0), (3, hs x 1)]) (fun x => []) (fun k => [.s (li k.fst), .s (ls (mkS k.snd))]) (fun k => 0 ≤
 k.fst ∧ k.fst ≤ n ∧ digs k.fst.toNat ++ k.snd = digs n.toNat) (fun k => k.fst.toNat) [.mk True (.exit 0) (fun x => [(3, hs x 0)]) (fun x => []) [.s (ls (mkS (digs n.toNat)))]]
theorem Sc_markTextLa (n : Int) (h0 : 0 ≤ n) (h : n ≤ 100000000000000) : Lp.Sem Tryz.prog (loopAt Tryz.f95 0) (lc_markTextLa n) := lpOK (fun k => .i (0 < k.fst) (.p ((10 : Int) ≠
 0) (.r (48 + k.fst.tmod 10) (.p (rng IntKind.u8 (48 + k.fst.tmod 10)) (.w (.bytes [UInt8.ofNat (48 + k.fst.tmod 10).toNat]) (.p ([[Cell.lit (Value.int IntKind.u8 (48 + k.fst.tmod
 10))]] = [[Cell.lit (Value.int IntKind.u8 (↑(UInt8.ofNat (48 + k.fst.tmod 10).toNat).toNat : Int))]]) (.p (1 + k.snd.length ≤ 9223372036854775807) (.p ((10 : Int) ≠ 0) (.r
 (k.fst.tdiv 10) (.g [] (k.fst.tdiv 10, [UInt8.ofNat (48 + k.fst.tmod 10).toNat] ++ k.snd) [.s (li (k.fst.tdiv 10)), .s (ls (ByteArray.mk ([UInt8.ofNat (48 + k.fst.tmod 10).toNat]
 ++ k.snd).toArray))]))))))))) (.o 0 [] [.s (ls (mkS k.snd))])) (by
  intro k h; try dsimp only [teasy, nthW, lc_markTextLa] at h ⊢
  obtain ⟨i, l⟩ := k
  simp only at *
  obtain ⟨g1, g2, g3⟩ := h
  have g4 : l.length ≤ 100000000000000 := by
    have := congrArg List.length g3
    have := digs_len n.toNat
    simp only [List.length_append] at *
    omega
  simp only [Int.tmod_eq_emod_of_nonneg g1, Int.tdiv_eq_ediv_of_nonneg g1]
  refine ⟨fun g => ?_, fun g => ?_⟩
  · refine ⟨by decide, by rw [rng64]; omega, by rw [rngu8]; omega, by rw [u8_int (by omega) (by omega)], by omega, by decide, by rw [rng64]; omega, by omega, rfl, ?_⟩
    exact ⟨by show 0 ≤ i / 10; omega, by show i / 10 ≤ n; omega, by show digs (i / 10).toNat ++ ([_] ++ l) = _; rw [← g3, digs_int g, List.append_assoc]⟩
  · refine ⟨trivial, ?_⟩
    have e : i = 0 := by omega
    subst e
    rw [show digs (0 : Int).toNat = [] from digs_zero] at g3
    rw [← g3]; rfl)
theorem c_markText (n : Int) (h0 : 0 ≤ n) (h : n ≤ 100000000000000)  : P_c_markText n := fnOK Tryz.call95 Tryz.func95 (.i (n ≤ 0) (.s (ls (ByteArray.mk #[(109 : UInt8), (48 :
 UInt8)]))) (.l (lc_markTextLa n) (Sc_markTextLa n h0 h) [] [.s (li n), .s (ls (ByteArray.mk #[]))] (n, []) (.t (.p (1 + (digs n.toNat).length ≤ 9223372036854775807) (.s (ls
 (ByteArray.mk ([(109 : UInt8)] ++ digs n.toNat).toArray)))) .q))) (by
  dsimp only [teasy, P_c_markText, nthW, lc_markTextLa]
  have g := digs_len n.toNat
  simp only [mText]
  with_reducible repeat' (first | apply And.intro | exact zR | (intro; skip))
  all_goals (try simp only [std, stdM, inj] at *)
  all_goals with_reducible repeat' apply And.intro
  all_goals (try (first | exact z | ((first | refine rowGet ?_ | refine getC ?_ rfl); (first | omega | (simp only [std, stdM]; omega) | grind)) | (refine set_row ?_; (simp only [List.length_map, List.length_set, mkTo_len]; omega)) | (refine mkToRow ?_; (first | omega | (simp only [std, stdM]; omega) | grind)) | (refine mkTo_row ?_ rfl; (first | omega | (simp only [std, stdM]; omega) | grind)) | (refine mkTo_step ?_ ?_; (first | omega | (simp only [std, stdM]; omega) | grind); (first | grind [mkS, snocI, snocS, rowSnoc])) | grind [mkS, snocI, snocS, rowSnoc])))
abbrev P_c_markSyntaxS (x : Syntax) (n : Int) : Ct := ⟨45, [.arr true 5 (x.items.map syntaxC)], [.one (.ref 0), li n], [.arr true 5 ((seqM mkY cY x.items n).map syntaxC)], .sv (li (n + sumBy cY x.items))⟩
def lc_markSyntaxS_sLa (x : Syntax) (n : Int) : Lp Nat := .mk 49 1 (fun x => [(0, SV.one (AC.ref 0)), (1, hs x 1), (5, hs x 0)]) (fun x => [ho x 2]) (fun k => [.s (li (↑k : Int)),
 .s (li (n + (↑(sumBy cY (List.take k x.items)) : Int))), .o (Ob.arr true 5 (List.map syntaxC (mkTo mkY cY x.items n k)))]) (fun k => k ≤ x.items.length ∧ x.items.length ≤
 9223372036854775807) (fun k => x.items.length - k) [.mk True (.exit 0) (fun x => [(1, hs x 0)]) (fun x => [ho x 1]) [.s (li (n + (↑(sumBy cY x.items) : Int))), .o (Ob.arr true 5
 (List.map syntaxC (seqM mkY cY x.items n)))]]
theorem Sc_markSyntaxS_sLa (x : Syntax) (n : Int) (h0 : 0 ≤ n) (h : n + (↑(sumBy cY x.items) : Int) ≤ 100000000000000) (ih : ∀ (z : Syntax), z ∈ x.items → ∀ (n : Int), 0 ≤ n → n +
 (↑(sumBy cY z.items) : Int) ≤ 100000000000000 → OK (P_c_markSyntaxS z n)) : Lp.Sem Tryz.prog (loopAt Tryz.f45 0) (lc_markSyntaxS_sLa x n) := lpOK (fun k => let v8 := (↑(sumBy cY
 (List.take k x.items)) : Int); let v12 := (n + v8 + 1 + 1); let v7 := (x.items.getD (↑k : Int).toNat default); let v13 := (List.map intC v7.scopes); let v11 := (List.map syntaxC
 v7.items); let v1 := [cI (n + v8), cI (n + v8 + 1), cS (mText v12), Cell.list v13, Cell.list v11]; let v10 := (n + v8 + 1 + 1 + 1); let v2 := [cI (n + v8), cI (n + v8 + 1), cS
 (mText v12), Cell.list (List.map intC (seqM mkI cOne v7.scopes v10)), Cell.list v11]; let v3 := [cI (n + v8), cI (n + v8 + 1), cS v7.text, Cell.list v13, Cell.list v11]; let v4 :=
 [cI (n + v8), cI v7.number, cS v7.text, Cell.list v13, Cell.list v11]; let v5 := (List.map syntaxC (mkTo mkY cY x.items n k)); let v6 := (n + v8 + 1 + 1 + 1 + (↑(x.items.getD (↑k
 : Int).toNat default).scopes.length : Int)); let v9 := (v5.set (↑k : Int).toNat v1); .z syntaxC (mkTo mkY cY x.items n k) (.i ((↑k : Int) < (↑(List.map syntaxC (mkTo mkY cY
 x.items n k)).length : Int)) (.p (0 ≤ (↑k : Int) ∧ (↑k : Int).toNat < v5.length) (.w (.cells (syntaxF v7)) (.p (v5[(↑k : Int).toNat]? = some (syntaxF v7)) (.r (n + v8 + 1) (.p (0
 ≤ (↑k : Int) ∧ (↑k : Int).toNat < (v5.set (↑k : Int).toNat v4).length) (.w (.take v4 (v5.set (↑k : Int).toNat v3) 0) (.p ((v5.set (↑k : Int).toNat v4)[(↑k : Int).toNat]? = some
 v4) (.p ((v5.set (↑k : Int).toNat v4).set (↑k : Int).toNat v3 = v5.set (↑k : Int).toNat v3) (.r v12 (.d [.rd] (P_c_markText v12) (.p (0 ≤ (↑k : Int) ∧ (↑k : Int).toNat < (v5.set
 (↑k : Int).toNat v3).length) (.w (.take v3 v9 0) (.p ((v5.set (↑k : Int).toNat v3)[(↑k : Int).toNat]? = some v3) (.p ((v5.set (↑k : Int).toNat v3).set (↑k : Int).toNat v1 = v5.set
 (↑k : Int).toNat v1) (.r v10 (.p (0 ≤ (↑k : Int) ∧ (↑k : Int).toNat < v9.length) (.w .sub (.p ((↑k : Int).toNat < v9.length) (.w (.subcall v1 v13 1) (.u [.own true 1, .rd]
 (P_c_markIntS v7.scopes v10) (.p (v9[(↑k : Int).toNat]? = some v1) (.p (some (Cell.list v13) = some (Cell.list v13)) (.p (∀ (x_1 : List Cell), x_1 ∈ List.map intC v7.scopes →
 x_1.length = 1) (.p (OK (P_c_markIntS v7.scopes v10)) (.p (0 ≤ (↑k : Int) ∧ (↑k : Int).toNat < (v9.set (↑k : Int).toNat v2).length) (.w .sub (.p ((↑k : Int).toNat < (v9.set (↑k :
 Int).toNat v2).length) (.w (.subcall v2 v11 5) (.u [.own true 5, .rd] (P_c_markSyntaxS v7 v6) (.p ((v9.set (↑k : Int).toNat v2)[(↑k : Int).toNat]? = some v2) (.p (some (Cell.list
 v11) = some (Cell.list v11)) (.p (∀ (x_1 : List Cell), x_1 ∈ List.map syntaxC v7.items → x_1.length = 5) (.p (OK (P_c_markSyntaxS v7 v6)) (.r ((↑k : Int) + 1) (.g [0] (k + 1) [.s
 (li ((↑k : Int) + 1)), .s (li (n + v8 + 1 + 1 + 1 + (↑(x.items.getD (↑k : Int).toNat default).scopes.length : Int) + (↑(sumBy cY v7.items) : Int))), .o (Ob.arr true 5 ((v9.set (↑k
 : Int).toNat v2).set (↑k : Int).toNat [cI (n + v8), cI (n + v8 + 1), cS (mText v12), Cell.list (List.map intC (seqM mkI cOne v7.scopes v10)), Cell.list (List.map syntaxC (seqM mkY
 cY v7.items v6))]))]))))))))))))))))))))))))))))))))))) (.o 0 [0] [.s (li (n + v8)), .o (Ob.arr true 5 v5)]))) (by
  intro k h; try dsimp only [teasy, nthW, lc_markSyntaxS_sLa] at h ⊢
  have g0 := sumBy_takeLe cY x.items (k + 1)
  with_reducible repeat' (first | apply And.intro | exact zR | exact ih | (intro; skip) | apply c_markText | apply c_markIntS | apply ih)
  all_goals (try simp only [std, stdM, inj] at *)
  all_goals with_reducible repeat' apply And.intro
  all_goals (try (first | with_reducible apply c_markText | with_reducible apply c_markIntS | with_reducible apply ih | (simp only [← List.map_append]; first | with_reducible apply c_markText | with_reducible apply c_markIntS | with_reducible apply ih)))
  all_goals (try (first | exact z | ((first | refine rowGet ?_ | refine getC ?_ rfl); (first | omega | (simp only [std, stdM]; omega) | grind)) | (refine set_row ?_; (simp only [List.length_map, List.length_set, mkTo_len]; omega)) | (refine mkToRow ?_; (first | omega | (simp only [std, stdM]; omega) | grind)) | (refine mkTo_row ?_ rfl; (first | omega | (simp only [std, stdM]; omega) | grind)) | (refine mkTo_step ?_ ?_; (first | omega | (simp only [std, stdM]; omega) | grind); (first | exact mkY_C _ _ | grind [sumBy_step, getD_mem', cY_eq, mkY_C, mkTo_all, snocI, snocS, rowSnoc])) | grind [sumBy_step, getD_mem', cY_eq, mkY_C, mkTo_all, snocI, snocS, rowSnoc])))
theorem c_markSyntaxS_s (x : Syntax) (n : Int) (h0 : 0 ≤ n) (h : n + sumBy cY x.items ≤ 100000000000000) (ih : ∀ z ∈ x.items, ∀ (n : Int) (h0 : 0 ≤ n) (h : n + sumBy cY z.items ≤
 100000000000000), P_c_markSyntaxS z n)  : P_c_markSyntaxS x n := fnOK Tryz.call45 Tryz.func45 (.l (lc_markSyntaxS_sLa x n) (Sc_markSyntaxS_sLa x n h0 h ih) [0] [.s (li 0), .s (li
 n), .o (Ob.arr true 5 (List.map syntaxC x.items))] 0 (.t (.f [] [Ob.arr true 5 (List.map syntaxC (seqM mkY cY x.items n))] (AV.sv (li (n + (↑(sumBy cY x.items) : Int))))) .q)) (by
  dsimp only [teasy, P_c_markSyntaxS, nthW, lc_markSyntaxS_sLa]
  have gl := cY_len x.items
  with_reducible repeat' (first | apply And.intro | exact zR | exact ih | (intro; skip) | apply c_markText | apply c_markIntS)
  all_goals (try simp only [std, stdM, inj] at *)
  all_goals with_reducible repeat' apply And.intro
  all_goals (try (first | with_reducible apply c_markText | with_reducible apply c_markIntS | with_reducible apply ih | (simp only [← List.map_append]; first | with_reducible apply c_markText | with_reducible apply c_markIntS | with_reducible apply ih)))
  all_goals (try (first | exact z | ((first | refine rowGet ?_ | refine getC ?_ rfl); (first | omega | (simp only [std, stdM]; omega) | grind)) | (refine set_row ?_; (simp only [List.length_map, List.length_set, mkTo_len]; omega)) | (refine mkToRow ?_; (first | omega | (simp only [std, stdM]; omega) | grind)) | (refine mkTo_row ?_ rfl; (first | omega | (simp only [std, stdM]; omega) | grind)) | (refine mkTo_step ?_ ?_; (first | omega | (simp only [std, stdM]; omega) | grind); (first | grind [mkTo_all, snocI, snocS, rowSnoc])) | grind [mkTo_all, snocI, snocS, rowSnoc])))
theorem c_markSyntaxS (x : Syntax) : ∀ (n : Int) (h0 : 0 ≤ n) (h : n + sumBy cY x.items ≤ 100000000000000), P_c_markSyntaxS x n := Syntax.ind (P := fun x => ∀ (n : Int) (h0 : 0 ≤ n) (h : n + sumBy cY x.items ≤ 100000000000000), P_c_markSyntaxS x n) (fun x ih n h0 h => c_markSyntaxS_s x n h0 h ih) x
theorem c_markSyntaxSL (L : List Syntax) (n : Int) (h0 : 0 ≤ n) (h : n + sumBy cY L ≤ 100000000000000) : P_c_markSyntaxS { (default : Syntax) with items := L } n := c_markSyntaxS { (default : Syntax) with items := L } n h0 h
abbrev P_c_markSyntax (x : Syntax) (n : Int) : Ct := ⟨23, [.arr true 1 (x.scopes.map intC), .arr true 5 (x.items.map syntaxC)], [.agg [vI x.kind, vI x.number, vS x.text, .ref 0, .ref 1], li n], [.arr true 1 ((seqM mkI cOne x.scopes (n)).map intC), .arr true 5 ((seqM mkY cY x.items (n + x.scopes.length)).map syntaxC)], .sv (li (n + x.scopes.length + sumBy cY x.items))⟩
theorem c_markSyntax (x : Syntax) (n : Int) (h0 : 0 ≤ n) (h : n + (x.scopes.length + sumBy cY x.items : Nat) ≤ 100000000000000)  : P_c_markSyntax x n := fnOK Tryz.call23 Tryz.func23
 (.d [.own true 1, .rd] (P_c_markIntS x.scopes n) (.d [.own true 5, .rd] (P_c_markSyntaxS x (n + (↑x.scopes.length : Int))) (.f [] [Ob.arr true 1 (List.map intC (seqM mkI cOne
 x.scopes n)), Ob.arr true 5 (List.map syntaxC (seqM mkY cY x.items (n + (↑x.scopes.length : Int))))] (AV.sv (li (n + (↑x.scopes.length : Int) + (↑(sumBy cY x.items) : Int)))))))
 (by
  dsimp only [teasy, P_c_markSyntax]
  with_reducible repeat' (first | apply And.intro | exact zR | (intro; skip) | apply c_markIntS | apply c_markSyntaxS | apply c_markSyntaxSL)
  all_goals (try simp only [std, stdM, inj] at *)
  all_goals with_reducible repeat' apply And.intro
  all_goals (try (first | with_reducible apply c_markIntS | with_reducible apply c_markSyntaxS | with_reducible apply c_markSyntaxSL | (simp only [← List.map_append]; first | with_reducible apply c_markIntS | with_reducible apply c_markSyntaxS | with_reducible apply c_markSyntaxSL)))
  all_goals (try (first | exact z | ((first | refine rowGet ?_ | refine getC ?_ rfl); (first | omega | (simp only [std, stdM]; omega) | grind)) | (refine set_row ?_; (simp only [List.length_map, List.length_set, mkTo_len]; omega)) | (refine mkToRow ?_; (first | omega | (simp only [std, stdM]; omega) | grind)) | (refine mkTo_row ?_ rfl; (first | omega | (simp only [std, stdM]; omega) | grind)) | (refine mkTo_step ?_ ?_; (first | omega | (simp only [std, stdM]; omega) | grind); (first | grind [snocI, snocS, rowSnoc])) | grind [snocI, snocS, rowSnoc])))
abbrev P_c_markBindingS (L : List Binding) (n : Int) : Ct := ⟨44, [.arr true 4 (L.map bindingC)], [.one (.ref 0), li n], [.arr true 4 ((seqM mkB cB L n).map bindingC)], .sv (li (n + sumBy cB L))⟩
def lc_markBindingSLa (L : List Binding) (n : Int) : Lp Nat := .mk 42 1 (fun x => [(0, SV.one (AC.ref 0)), (1, hs x 1), (5, hs x 0)]) (fun x => [ho x 2]) (fun k => [.s (li (↑k :
 Int)), .s (li (n + (↑(sumBy cB (List.take k L)) : Int))), .o (Ob.arr true 4 (List.map bindingC (mkTo mkB cB L n k)))]) (fun k => k ≤ L.length ∧ L.length ≤ 9223372036854775807)
 (fun k => L.length - k) [.mk True (.exit 0) (fun x => [(1, hs x 0)]) (fun x => [ho x 1]) [.s (li (n + (↑(sumBy cB L) : Int))), .o (Ob.arr true 4 (List.map bindingC (seqM mkB cB L
 n)))]]
theorem Sc_markBindingSLa (L : List Binding) (n : Int) (h0 : 0 ≤ n) (h : n + (↑(sumBy cB L) : Int) ≤ 100000000000000) : Lp.Sem Tryz.prog (loopAt Tryz.f44 0) (lc_markBindingSLa L n)
 := lpOK (fun k => let v9 := (List.map bindingC (mkTo mkB cB L n k)); let v8 := (↑(sumBy cB (List.take k L)) : Int); let v7 := (L.getD (↑k : Int).toNat default); let v11 := [cS
 (mText (n + v8)), Cell.list (List.map intC v7.scopes), cI v7.kind, cI v7.number]; let v1 := (v9.set (↑k : Int).toNat v11); let v12 := (List.map intC (seqM mkI cOne v7.scopes (n +
 v8 + 1))); let v10 := (↑(L.getD (↑k : Int).toNat default).scopes.length : Int); let v2 := [cS (mText (n + v8)), Cell.list v12, cI (n + v8 + 1 + v10), cI v7.number]; let v3 := [cS
 (mText (n + v8)), Cell.list v12, cI (n + v8 + 1 + v10), cI (n + v8 + 1 + v10 + 1)]; let v4 := [cS (mText (n + v8)), Cell.list v12, cI v7.kind, cI v7.number]; let v5 := (n + v8 + 1
 + v10 + 1 + 1); let v6 := (P_c_markIntS v7.scopes (n + v8 + 1)); .z bindingC (mkTo mkB cB L n k) (.i ((↑k : Int) < (↑(List.map bindingC (mkTo mkB cB L n k)).length : Int)) (.d
 [.rd] (P_c_markText (n + v8)) (.p (0 ≤ (↑k : Int) ∧ (↑k : Int).toNat < v9.length) (.w (.cells (bindingF v7)) (.p (v9[(↑k : Int).toNat]? = some (bindingF v7)) (.r (n + v8 + 1) (.p
 (0 ≤ (↑k : Int) ∧ (↑k : Int).toNat < v1.length) (.w .sub (.p ((↑k : Int).toNat < v1.length) (.w (.subcall v11 (List.map intC v7.scopes) 1) (.u [.own true 1, .rd] v6 (.p (v1[(↑k :
 Int).toNat]? = some v11) (.p (some (Cell.list (List.map intC v7.scopes)) = some (Cell.list (List.map intC v7.scopes))) (.p (∀ (x : List Cell), x ∈ List.map intC v7.scopes →
 x.length = 1) (.p (OK v6) (.p (0 ≤ (↑k : Int) ∧ (↑k : Int).toNat < (v1.set (↑k : Int).toNat v4).length) (.w (.take v4 (v1.set (↑k : Int).toNat v2) 0) (.p ((v1.set (↑k : Int).toNat
 v4)[(↑k : Int).toNat]? = some v4) (.p ((v1.set (↑k : Int).toNat v4).set (↑k : Int).toNat v2 = v1.set (↑k : Int).toNat v2) (.r (n + v8 + 1 + v10 + 1) (.p (0 ≤ (↑k : Int) ∧ (↑k :
 Int).toNat < (v1.set (↑k : Int).toNat v2).length) (.w (.take v2 (v1.set (↑k : Int).toNat v3) 0) (.p ((v1.set (↑k : Int).toNat v2)[(↑k : Int).toNat]? = some v2) (.p ((v1.set (↑k :
 Int).toNat v2).set (↑k : Int).toNat v3 = v1.set (↑k : Int).toNat v3) (.r v5 (.r ((↑k : Int) + 1) (.g [0] (k + 1) [.s (li ((↑k : Int) + 1)), .s (li v5), .o (Ob.arr true 4 (v1.set
 (↑k : Int).toNat v3))])))))))))))))))))))))))))) (.o 0 [0] [.s (li (n + v8)), .o (Ob.arr true 4 v9)]))) (by
  intro k h; try dsimp only [teasy, nthW, lc_markBindingSLa] at h ⊢
  have g0 := sumBy_takeLe cB L (k + 1)
  with_reducible repeat' (first | apply And.intro | exact zR | (intro; skip) | apply c_markText | apply c_markIntS)
  all_goals (try simp only [std, stdM, inj] at *)
  all_goals with_reducible repeat' apply And.intro
  all_goals (try (first | with_reducible apply c_markText | with_reducible apply c_markIntS | (simp only [← List.map_append]; first | with_reducible apply c_markText | with_reducible apply c_markIntS)))
  all_goals (try (first | exact z | ((first | refine rowGet ?_ | refine getC ?_ rfl); (first | omega | (simp only [std, stdM]; omega) | grind)) | (refine set_row ?_; (simp only [List.length_map, List.length_set, mkTo_len]; omega)) | (refine mkToRow ?_; (first | omega | (simp only [std, stdM]; omega) | grind)) | (refine mkTo_row ?_ rfl; (first | omega | (simp only [std, stdM]; omega) | grind)) | (refine mkTo_step ?_ ?_; (first | omega | (simp only [std, stdM]; omega) | grind); (first | exact mkB_C _ _ | grind [sumBy_step, getD_mem', cB_eq, mkB_C, mkTo_all, snocI, snocS, rowSnoc])) | grind [sumBy_step, getD_mem', cB_eq, mkB_C, mkTo_all, snocI, snocS, rowSnoc])))
theorem c_markBindingS (L : List Binding) (n : Int) (h0 : 0 ≤ n) (h : n + sumBy cB L ≤ 100000000000000)  : P_c_markBindingS L n := fnOK Tryz.call44 Tryz.func44 (.l (lc_markBindingSLa
 L n) (Sc_markBindingSLa L n h0 h) [0] [.s (li 0), .s (li n), .o (Ob.arr true 4 (List.map bindingC L))] 0 (.t (.f [] [Ob.arr true 4 (List.map bindingC (seqM mkB cB L n))] (AV.sv
 (li (n + (↑(sumBy cB L) : Int))))) .q)) (by
  dsimp only [teasy, P_c_markBindingS, nthW, lc_markBindingSLa]
  have gl := cB_len L
  with_reducible repeat' (first | apply And.intro | exact zR | (intro; skip) | apply c_markText | apply c_markIntS)
  all_goals (try simp only [std, stdM, inj] at *)
  all_goals with_reducible repeat' apply And.intro
  all_goals (try (first | with_reducible apply c_markText | with_reducible apply c_markIntS | (simp only [← List.map_append]; first | with_reducible apply c_markText | with_reducible apply c_markIntS)))
  all_goals (try (first | exact z | ((first | refine rowGet ?_ | refine getC ?_ rfl); (first | omega | (simp only [std, stdM]; omega) | grind)) | (refine set_row ?_; (simp only [List.length_map, List.length_set, mkTo_len]; omega)) | (refine mkToRow ?_; (first | omega | (simp only [std, stdM]; omega) | grind)) | (refine mkTo_row ?_ rfl; (first | omega | (simp only [std, stdM]; omega) | grind)) | (refine mkTo_step ?_ ?_; (first | omega | (simp only [std, stdM]; omega) | grind); (first | grind [mkTo_all, snocI, snocS, rowSnoc])) | grind [mkTo_all, snocI, snocS, rowSnoc])))
abbrev P_c_markCaptureS (x : Capture) (n : Int) : Ct := ⟨46, [.arr true 12 (x.each.map captureC)], [.one (.ref 0), li n], [.arr true 12 ((seqM mkP cP x.each n).map captureC)], .sv (li (n + sumBy cP x.each))⟩
def lc_markCaptureS_sLa (x : Capture) (n : Int) : Lp Nat := .mk 109 1 (fun x => [(0, SV.one (AC.ref 0)), (1, hs x 1), (5, hs x 0)]) (fun x => [ho x 2]) (fun k => [.s (li (↑k :
 Int)), .s (li (n + (↑(sumBy cP (List.take k x.each)) : Int))), .o (Ob.arr true 12 (List.map captureC (mkTo mkP cP x.each n k)))]) (fun k => k ≤ x.each.length ∧ x.each.length ≤
 9223372036854775807) (fun k => x.each.length - k) [.mk True (.exit 0) (fun x => [(1, hs x 0)]) (fun x => [ho x 1]) [.s (li (n + (↑(sumBy cP x.each) : Int))), .o (Ob.arr true 12
 (List.map captureC (seqM mkP cP x.each n)))]]
theorem Sc_markCaptureS_sLa (x : Capture) (n : Int) (h0 : 0 ≤ n) (h : n + (↑(sumBy cP x.each) : Int) ≤ 100000000000000) (ih : ∀ (z : Capture), z ∈ x.each → ∀ (n : Int), 0 ≤ n → n +
 (↑(sumBy cP z.each) : Int) ≤ 100000000000000 → OK (P_c_markCaptureS z n)) : Lp.Sem Tryz.prog (loopAt Tryz.f46 0) (lc_markCaptureS_sLa x n) := lpOK (fun k => let v9 := (List.map
 captureC (mkTo mkP cP x.each n k)); let v8 := (↑(sumBy cP (List.take k x.each)) : Int); let v33 := (n + v8 + 1); let v21 := (mText (n + v8 + 1 + 1)); let v7 := (x.each.getD (↑k :
 Int).toNat default); let v35 := (List.map intC v7.name.scopes); let v34 := (List.map syntaxC v7.name.items); let v31 := (List.map intC v7.form.scopes); let v22 := (List.map
 syntaxC v7.form.items); let v30 := (List.map captureC v7.each); let v12 := [cI (n + v8), cI v33, cS v21, Cell.list v35, Cell.list v34, cI v7.depth, cI v7.form.kind, cI
 v7.form.number, cS v7.form.text, Cell.list v31, Cell.list v22, Cell.list v30]; let v37 := (v9.set (↑k : Int).toNat v12); let v36 := (n + v8 + 1 + 1 + 1); let v19 := (List.map intC
 (seqM mkI cOne v7.name.scopes v36)); let v24 := [cI (n + v8), cI v33, cS v21, Cell.list v19, Cell.list v34, cI v7.depth, cI v7.form.kind, cI v7.form.number, cS v7.form.text,
 Cell.list v31, Cell.list v22, Cell.list v30]; let v1 := (v37.set (↑k : Int).toNat v24); let v17 := (↑(x.each.getD (↑k : Int).toNat default).name.scopes.length : Int); let v39 :=
 (n + v8 + 1 + 1 + 1 + v17); let v23 := (List.map syntaxC (seqM mkY cY v7.name.items v39)); let v18 := (↑(sumBy cY v7.name.items) : Int); let v29 := (n + v8 + 1 + 1 + 1 + v17 +
 v18); let v26 := (n + v8 + 1 + 1 + 1 + v17 + v18 + 1); let v27 := (n + v8 + 1 + 1 + 1 + v17 + v18 + 1 + 1); let v25 := (n + v8 + 1 + 1 + 1 + v17 + v18 + 1 + 1 + 1); let v2 := [cI
 (n + v8), cI v33, cS v21, Cell.list v19, Cell.list v23, cI v29, cI v26, cI v27, cS (mText v25), Cell.list v31, Cell.list v22, Cell.list v30]; let v16 := (n + v8 + 1 + 1 + 1 + v17
 + v18 + 1 + 1 + 1 + 1); let v40 := (List.map intC (seqM mkI cOne v7.form.scopes v16)); let v3 := [cI (n + v8), cI v33, cS v21, Cell.list v19, Cell.list v23, cI v29, cI v26, cI
 v27, cS (mText v25), Cell.list v40, Cell.list v22, Cell.list v30]; let v20 := (↑(x.each.getD (↑k : Int).toNat default).form.scopes.length : Int); let v28 := (n + v8 + 1 + 1 + 1 +
 v17 + v18 + 1 + 1 + 1 + 1 + v20); let v4 := [cI (n + v8), cI v33, cS v21, Cell.list v19, Cell.list v23, cI v29, cI v26, cI v27, cS (mText v25), Cell.list v40, Cell.list (List.map
 syntaxC (seqM mkY cY v7.form.items v28)), Cell.list v30]; let v5 := [cI (n + v8), cI v33, cS v21, Cell.list v19, Cell.list v23, cI v29, cI v26, cI v27, cS v7.form.text, Cell.list
 v31, Cell.list v22, Cell.list v30]; let v6 := [cI (n + v8), cI v33, cS v21, Cell.list v19, Cell.list v23, cI v29, cI v26, cI v7.form.number, cS v7.form.text, Cell.list v31,
 Cell.list v22, Cell.list v30]; let v38 := (v1.set (↑k : Int).toNat v2); let v10 := (v38.set (↑k : Int).toNat v3); let v11 := [cI (n + v8), cI v33, cS v21, Cell.list v19, Cell.list
 v23, cI v29, cI v7.form.kind, cI v7.form.number, cS v7.form.text, Cell.list v31, Cell.list v22, Cell.list v30]; let v13 := [cI (n + v8), cI v33, cS v7.name.text, Cell.list v35,
 Cell.list v34, cI v7.depth, cI v7.form.kind, cI v7.form.number, cS v7.form.text, Cell.list v31, Cell.list v22, Cell.list v30]; let v14 := [cI (n + v8), cI v33, cS v21, Cell.list
 v19, Cell.list v23, cI v7.depth, cI v7.form.kind, cI v7.form.number, cS v7.form.text, Cell.list v31, Cell.list v22, Cell.list v30]; let v15 := [cI (n + v8), cI v7.name.number, cS
 v7.name.text, Cell.list v35, Cell.list v34, cI v7.depth, cI v7.form.kind, cI v7.form.number, cS v7.form.text, Cell.list v31, Cell.list v22, Cell.list v30]; let v32 := (n + v8 + 1
 + 1 + 1 + v17 + v18 + 1 + 1 + 1 + 1 + v20 + (↑(sumBy cY v7.form.items) : Int)); .z captureC (mkTo mkP cP x.each n k) (.i ((↑k : Int) < (↑(List.map captureC (mkTo mkP cP x.each n
 k)).length : Int)) (.p (0 ≤ (↑k : Int) ∧ (↑k : Int).toNat < v9.length) (.w (.cells (captureF v7)) (.p (v9[(↑k : Int).toNat]? = some (captureF v7)) (.r v33 (.p (0 ≤ (↑k : Int) ∧
 (↑k : Int).toNat < (v9.set (↑k : Int).toNat v15).length) (.w (.take v15 (v9.set (↑k : Int).toNat v13) 0) (.p ((v9.set (↑k : Int).toNat v15)[(↑k : Int).toNat]? = some v15) (.p
 ((v9.set (↑k : Int).toNat v15).set (↑k : Int).toNat v13 = v9.set (↑k : Int).toNat v13) (.r (n + v8 + 1 + 1) (.d [.rd] (P_c_markText (n + v8 + 1 + 1)) (.p (0 ≤ (↑k : Int) ∧ (↑k :
 Int).toNat < (v9.set (↑k : Int).toNat v13).length) (.w (.take v13 v37 0) (.p ((v9.set (↑k : Int).toNat v13)[(↑k : Int).toNat]? = some v13) (.p ((v9.set (↑k : Int).toNat v13).set
 (↑k : Int).toNat v12 = v9.set (↑k : Int).toNat v12) (.r v36 (.p (0 ≤ (↑k : Int) ∧ (↑k : Int).toNat < v37.length) (.w .sub (.p ((↑k : Int).toNat < v37.length) (.w (.subcall v12 v35
 1) (.u [.own true 1, .rd] (P_c_markIntS v7.name.scopes v36) (.p (v37[(↑k : Int).toNat]? = some v12) (.p (some (Cell.list v35) = some (Cell.list v35)) (.p (∀ (x_1 : List Cell), x_1
 ∈ List.map intC v7.name.scopes → x_1.length = 1) (.p (OK (P_c_markIntS v7.name.scopes v36)) (.p (0 ≤ (↑k : Int) ∧ (↑k : Int).toNat < v1.length) (.w .sub (.p ((↑k : Int).toNat <
 v1.length) (.w (.subcall v24 v34 5) (.u [.own true 5, .rd] (P_c_markSyntaxS v7.name v39) (.p (v1[(↑k : Int).toNat]? = some v24) (.p (some (Cell.list v34) = some (Cell.list v34))
 (.p (∀ (x_1 : List Cell), x_1 ∈ List.map syntaxC v7.name.items → x_1.length = 5) (.p (OK (P_c_markSyntaxS v7.name v39)) (.p (0 ≤ (↑k : Int) ∧ (↑k : Int).toNat < (v1.set (↑k :
 Int).toNat v14).length) (.w (.take v14 (v1.set (↑k : Int).toNat v11) 0) (.p ((v1.set (↑k : Int).toNat v14)[(↑k : Int).toNat]? = some v14) (.p ((v1.set (↑k : Int).toNat v14).set
 (↑k : Int).toNat v11 = v1.set (↑k : Int).toNat v11) (.r v26 (.p (0 ≤ (↑k : Int) ∧ (↑k : Int).toNat < (v1.set (↑k : Int).toNat v11).length) (.w (.take v11 (v1.set (↑k : Int).toNat
 v6) 0) (.p ((v1.set (↑k : Int).toNat v11)[(↑k : Int).toNat]? = some v11) (.p ((v1.set (↑k : Int).toNat v11).set (↑k : Int).toNat v6 = v1.set (↑k : Int).toNat v6) (.r v27 (.p (0 ≤
 (↑k : Int) ∧ (↑k : Int).toNat < (v1.set (↑k : Int).toNat v6).length) (.w (.take v6 (v1.set (↑k : Int).toNat v5) 0) (.p ((v1.set (↑k : Int).toNat v6)[(↑k : Int).toNat]? = some v6)
 (.p ((v1.set (↑k : Int).toNat v6).set (↑k : Int).toNat v5 = v1.set (↑k : Int).toNat v5) (.r v25 (.d [.rd] (P_c_markText v25) (.p (0 ≤ (↑k : Int) ∧ (↑k : Int).toNat < (v1.set (↑k :
 Int).toNat v5).length) (.w (.take v5 v38 0) (.p ((v1.set (↑k : Int).toNat v5)[(↑k : Int).toNat]? = some v5) (.p ((v1.set (↑k : Int).toNat v5).set (↑k : Int).toNat v2 = v1.set (↑k
 : Int).toNat v2) (.r v16 (.p (0 ≤ (↑k : Int) ∧ (↑k : Int).toNat < v38.length) (.w .sub (.p ((↑k : Int).toNat < v38.length) (.w (.subcall v2 v31 1) (.u [.own true 1, .rd]
 (P_c_markIntS v7.form.scopes v16) (.p (v38[(↑k : Int).toNat]? = some v2) (.p (some (Cell.list v31) = some (Cell.list v31)) (.p (∀ (x_1 : List Cell), x_1 ∈ List.map intC
 v7.form.scopes → x_1.length = 1) (.p (OK (P_c_markIntS v7.form.scopes v16)) (.p (0 ≤ (↑k : Int) ∧ (↑k : Int).toNat < v10.length) (.w .sub (.p ((↑k : Int).toNat < v10.length) (.w
 (.subcall v3 v22 5) (.u [.own true 5, .rd] (P_c_markSyntaxS v7.form v28) (.p (v10[(↑k : Int).toNat]? = some v3) (.p (some (Cell.list v22) = some (Cell.list v22)) (.p (∀ (x_1 :
 List Cell), x_1 ∈ List.map syntaxC v7.form.items → x_1.length = 5) (.p (OK (P_c_markSyntaxS v7.form v28)) (.p (0 ≤ (↑k : Int) ∧ (↑k : Int).toNat < (v10.set (↑k : Int).toNat
 v4).length) (.w .sub (.p ((↑k : Int).toNat < (v10.set (↑k : Int).toNat v4).length) (.w (.subcall v4 v30 12) (.u [.own true 12, .rd] (P_c_markCaptureS v7 v32) (.p ((v10.set (↑k :
 Int).toNat v4)[(↑k : Int).toNat]? = some v4) (.p (some (Cell.list v30) = some (Cell.list v30)) (.p (∀ (x_1 : List Cell), x_1 ∈ List.map captureC v7.each → x_1.length = 12) (.p (OK
 (P_c_markCaptureS v7 v32)) (.r ((↑k : Int) + 1) (.g [0] (k + 1) [.s (li ((↑k : Int) + 1)), .s (li (n + v8 + 1 + 1 + 1 + v17 + v18 + 1 + 1 + 1 + 1 + v20 + (↑(sumBy cY
 v7.form.items) : Int) + (↑(sumBy cP v7.each) : Int))), .o (Ob.arr true 12 ((v10.set (↑k : Int).toNat v4).set (↑k : Int).toNat [cI (n + v8), cI v33, cS v21, Cell.list v19,
 Cell.list v23, cI v29, cI v26, cI v27, cS (mText v25), Cell.list v40, Cell.list (List.map syntaxC (seqM mkY cY v7.form.items v28)), Cell.list (List.map captureC (seqM mkP cP
 v7.each v32))]))]))))))))))))))))))))))))))))))))))))))))))))))))))))))))))))))))))))))))))))))))))) (.o 0 [0] [.s (li (n + v8)), .o (Ob.arr true 12 v9)]))) (by
  intro k h; try dsimp only [teasy, nthW, lc_markCaptureS_sLa] at h ⊢
  have g0 := sumBy_takeLe cP x.each (k + 1)
  with_reducible repeat' (first | apply And.intro | exact zR | exact ih | (intro; skip) | apply c_markText | apply c_markIntS | apply c_markSyntaxS | apply c_markSyntaxSL | apply ih)
  all_goals (try simp only [std, stdM, inj] at *)
  all_goals with_reducible repeat' apply And.intro
  all_goals (try (first | with_reducible apply c_markText | with_reducible apply c_markIntS | with_reducible apply c_markSyntaxS | with_reducible apply c_markSyntaxSL | with_reducible apply ih | (simp only [← List.map_append]; first | with_reducible apply c_markText | with_reducible apply c_markIntS | with_reducible apply c_markSyntaxS | with_reducible apply c_markSyntaxSL | with_reducible apply ih)))
  all_goals (try (first | exact z | ((first | refine rowGet ?_ | refine getC ?_ rfl); (first | omega | (simp only [std, stdM]; omega) | grind)) | (refine set_row ?_; (simp only [List.length_map, List.length_set, mkTo_len]; omega)) | (refine mkToRow ?_; (first | omega | (simp only [std, stdM]; omega) | grind)) | (refine mkTo_row ?_ rfl; (first | omega | (simp only [std, stdM]; omega) | grind)) | (refine mkTo_step ?_ ?_; (first | omega | (simp only [std, stdM]; omega) | grind); (first | exact mkP_C _ _ | grind [sumBy_step, getD_mem', cP_eq, mkP_C, mkTo_all, snocI, snocS, rowSnoc])) | grind [sumBy_step, getD_mem', cP_eq, mkP_C, mkTo_all, snocI, snocS, rowSnoc])))
theorem c_markCaptureS_s (x : Capture) (n : Int) (h0 : 0 ≤ n) (h : n + sumBy cP x.each ≤ 100000000000000) (ih : ∀ z ∈ x.each, ∀ (n : Int) (h0 : 0 ≤ n) (h : n + sumBy cP z.each ≤
 100000000000000), P_c_markCaptureS z n)  : P_c_markCaptureS x n := fnOK Tryz.call46 Tryz.func46 (.l (lc_markCaptureS_sLa x n) (Sc_markCaptureS_sLa x n h0 h ih) [0] [.s (li 0), .s
 (li n), .o (Ob.arr true 12 (List.map captureC x.each))] 0 (.t (.f [] [Ob.arr true 12 (List.map captureC (seqM mkP cP x.each n))] (AV.sv (li (n + (↑(sumBy cP x.each) : Int)))))
 .q)) (by
  dsimp only [teasy, P_c_markCaptureS, nthW, lc_markCaptureS_sLa]
  have gl := cP_len x.each
  with_reducible repeat' (first | apply And.intro | exact zR | exact ih | (intro; skip) | apply c_markText | apply c_markIntS | apply c_markSyntaxS | apply c_markSyntaxSL)
  all_goals (try simp only [std, stdM, inj] at *)
  all_goals with_reducible repeat' apply And.intro
  all_goals (try (first | with_reducible apply c_markText | with_reducible apply c_markIntS | with_reducible apply c_markSyntaxS | with_reducible apply c_markSyntaxSL | with_reducible apply ih | (simp only [← List.map_append]; first | with_reducible apply c_markText | with_reducible apply c_markIntS | with_reducible apply c_markSyntaxS | with_reducible apply c_markSyntaxSL | with_reducible apply ih)))
  all_goals (try (first | exact z | ((first | refine rowGet ?_ | refine getC ?_ rfl); (first | omega | (simp only [std, stdM]; omega) | grind)) | (refine set_row ?_; (simp only [List.length_map, List.length_set, mkTo_len]; omega)) | (refine mkToRow ?_; (first | omega | (simp only [std, stdM]; omega) | grind)) | (refine mkTo_row ?_ rfl; (first | omega | (simp only [std, stdM]; omega) | grind)) | (refine mkTo_step ?_ ?_; (first | omega | (simp only [std, stdM]; omega) | grind); (first | grind [mkTo_all, snocI, snocS, rowSnoc])) | grind [mkTo_all, snocI, snocS, rowSnoc])))
theorem c_markCaptureS (x : Capture) : ∀ (n : Int) (h0 : 0 ≤ n) (h : n + sumBy cP x.each ≤ 100000000000000), P_c_markCaptureS x n := Capture.ind (P := fun x => ∀ (n : Int) (h0 : 0 ≤ n) (h : n + sumBy cP x.each ≤ 100000000000000), P_c_markCaptureS x n) (fun x ih n h0 h => c_markCaptureS_s x n h0 h ih) x
theorem c_markCaptureSL (L : List Capture) (n : Int) (h0 : 0 ≤ n) (h : n + sumBy cP L ≤ 100000000000000) : P_c_markCaptureS { (default : Capture) with each := L } n := c_markCaptureS { (default : Capture) with each := L } n h0 h
end Go.Proofs.YtpnaoendfpaodaaGreat
end
